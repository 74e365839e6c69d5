/- The evaluator's calls, rows and objects are sound. -/
import Derived.Test.YtjkfpbfimcpoeaaGreatDoorEngA
import Derived.Maps.AppendAt
import Derived.Laws.MakeOwn
import Derived.Deep.Upon
import Derived.Laws.BytesArg
import Derived.Great.BuildSlice
section
set_option linter.unusedVariables false
set_option linter.unusedSimpArgs false
namespace Go.Eng
variable {R : Type} {P : Program} {X : Ctx} {E : Env} {ok : Nat → Prop} {st : St} {a : Act} {w : World} {r : R} {o : Oper} {K : PV → St → Option R}

theorem allInt_get : ∀ {cs : List PC} {k : IntKind} {l : List Int}, allInt cs = some (k, l) → cs = l.map (PC.int k)
  | [], k, l, h => by simp [allInt] at h
  | [.int k' x], k, l, h => by
    simp only [allInt, Option.some.injEq, Prod.mk.injEq] at h
    obtain ⟨rfl, rfl⟩ := h
    rfl
  | .int k' x :: y :: r, k, l, h => by
    simp only [allInt] at h
    split at h
    · rename_i k2 l2 h2
      split at h
      · rename_i hk
        simp only [Option.some.injEq, Prod.mk.injEq] at h
        obtain ⟨rfl, rfl⟩ := h
        subst hk
        rw [allInt_get h2]; rfl
      · cases h
    · cases h
  | .unk :: r, k, l, h => by simp [allInt] at h
  | .bool _ :: r, k, l, h => by simp [allInt] at h
  | .str _ :: r, k, l, h => by simp [allInt] at h
  | .nil :: r, k, l, h => by simp [allInt] at h
  | .sl _ _ :: r, k, l, h => by simp [allInt] at h
  | .own _ _ :: r, k, l, h => by simp [allInt] at h
  | .view _ _ _ _ :: r, k, l, h => by simp [allInt] at h
  | .box _ _ :: r, k, l, h => by simp [allInt] at h
  | .arr _ _ _ _ :: r, k, l, h => by simp [allInt] at h
  | .elt _ _ _ :: r, k, l, h => by simp [allInt] at h
  | .fn _ :: r, k, l, h => by simp [allInt] at h
  | .objc _ :: r, k, l, h => by simp [allInt] at h
  | .nilp :: r, k, l, h => by simp [allInt] at h
  | .nili :: r, k, l, h => by simp [allInt] at h
theorem allStr_get : ∀ {cs : List PC} {l : List ByteArray}, allStr cs = some l → cs = l.map PC.str
  | [], l, h => by
    simp only [allStr, Option.some.injEq] at h
    subst h; rfl
  | .str x :: r, l, h => by
    simp only [allStr] at h
    split at h
    · rename_i l2 h2
      simp only [Option.some.injEq] at h
      subst h
      rw [allStr_get h2]; rfl
    · cases h
  | .int _ _ :: r, l, h => by simp [allStr] at h
  | .unk :: r, l, h => by simp [allStr] at h
  | .bool _ :: r, l, h => by simp [allStr] at h
  | .nil :: r, l, h => by simp [allStr] at h
  | .sl _ _ :: r, l, h => by simp [allStr] at h
  | .own _ _ :: r, l, h => by simp [allStr] at h
  | .view _ _ _ _ :: r, l, h => by simp [allStr] at h
  | .box _ _ :: r, l, h => by simp [allStr] at h
  | .arr _ _ _ _ :: r, l, h => by simp [allStr] at h
  | .elt _ _ _ :: r, l, h => by simp [allStr] at h
  | .fn _ :: r, l, h => by simp [allStr] at h
  | .objc _ :: r, l, h => by simp [allStr] at h
  | .nilp :: r, l, h => by simp [allStr] at h
  | .nili :: r, l, h => by simp [allStr] at h
theorem ixArr_some {cs : List PC} {n : Int} {K : PC → Option R} (h : ixArr cs n K = some r) : ∃ (q : PC) (j : Nat), K q = some r ∧ (j : Int) = n ∧ 0 ≤ n ∧ cs[j]? = some q := by
  unfold ixArr at h
  split at h
  · rename_i k l hl
    split at h
    · rename_i hb
      refine ⟨_, n.toNat, h, by omega, hb.1, ?_⟩
      have hlt : n.toNat < l.length := by omega
      rw [allInt_get hl, List.getElem?_map, List.getD_eq_getElem?_getD, List.getElem?_eq_getElem hlt]; rfl
    · cases h
  · split at h
    · rename_i l hl
      split at h
      · rename_i hb
        refine ⟨_, n.toNat, h, by omega, hb.1, ?_⟩
        have hlt : n.toNat < l.length := by omega
        rw [allStr_get hl, List.getElem?_map, List.getD_eq_getElem?_getD, List.getElem?_eq_getElem hlt]; rfl
      · cases h
    · cases h
theorem s_index {t : TypeId} {x i : Operand} (hI : Inv X E ok st a w) (ho : o.op = .index t x i)
    (h : (match P.underlying t, ixOf (st.op i), st.op x with
    | some .string, some n, .a (.c (.str s)) => if 0 ≤ n ∧ n < s.size then K (.one (.int .u8 (sbyte s n))) st else none
    | some (.array m e), some n, .a (.agg cs) => if sizeP P e = some 1 ∧ aggP P e = some false ∧ cs.length = m then ixArr cs n fun q => K (.one q) st else none
    | _, _, _ => none) = some r) : OpSound P X E ok o st a w K r := by
  split at h
  · rename_i n s hu hn hx
    obtain ⟨k, hi⟩ := ixOf_some hI hn
    have hr : a.eval x = .string s := relC_of hI hx
    split at h
    · rename_i hb
      refine ⟨_, _, h, goes_pure hI (run_value (s := Instr.index t (a.eval x) (a.eval i)) (by simp only [execOp, ho]) ?_) rfl⟩
      rw [hr, hi]
      have hlt : n.toNat < s.size := by omega
      have e1 : s[n.toNat]? = some s[n.toNat] := getElem?_pos s n.toNat hlt
      simp only [Instr.index, asIntOf, Sem.run_bind, Sem.run_pure, Result.andThen_ok, run_und hu, if_pos hb.1, e1]
      congr 2
      unfold sbyte
      rw [List.getD_eq_getElem?_getD, List.getElem?_eq_getElem (by simpa using hlt)]
      rfl
    · cases h
  · rename_i m e n cs hu hn hx
    obtain ⟨k, hi⟩ := ixOf_some hI hn
    have hx2 := hI.op x
    rw [hx] at hx2
    obtain ⟨vs, e1, hr⟩ := hx2
    split at h
    · rename_i hc
      obtain ⟨hs, hg, hl⟩ := hc
      obtain ⟨q, j, h, hj, hj0, hq⟩ := ixArr_some h
      have hlt : j < vs.length := by have := get_lt hq; rw [hr.1] at this; exact this
      have hv : vs[j]? = some vs[j] := List.getElem?_eq_getElem hlt
      refine ⟨_, _, h, goes_pure hI (v' := vs[j]) (run_value (s := Instr.index t (a.eval x) (a.eval i)) (by simp only [execOp, ho]) ?_) (hr.2 j q _ hq hv)⟩
      rw [e1, hi]
      have h0 : 0 ≤ n := by omega
      have h1 : n < m := by have := get_lt hq; omega
      have hjn : n.toNat = j := by omega
      simp [Instr.index, asIntOf, run_und hu, h0, h1, run_size hs, part, run_agg hg, hjn, hv]
    · cases h
  · cases h
/-- A cut's bounds, as they were told. -/
theorem cutK_sound {lo hi mx : Option Int} {len : Nat} {K : Option Nat → Option Nat → Option R} (h : cutK lo hi mx len K = some r) :
    ∃ l' h', K l' h' = some r ∧ l'.getD 0 ≤ h'.getD len ∧ h'.getD len ≤ len ∧ l' = lo.map Int.toNat ∧ h' = hi.map Int.toNat ∧ (∀ x, lo = some x → 0 ≤ x) ∧ (∀ x, hi = some x → 0 ≤ x) ∧
      (∀ m, mx = some m → 0 ≤ m ∧ (h'.getD len : Int) ≤ m ∧ m ≤ len ∧ hi ≠ none) := by
  unfold cutK at h
  split at h
  · split at h
    · split at h
      · exact ⟨_, _, h, by simp, by simp, rfl, rfl, by simp, by simp, by simp⟩
      · rename_i x
        split at h
        · rename_i hb
          exact ⟨_, _, h, by simp, by simp; omega, rfl, rfl, by simp, by simp; omega, by simp⟩
        · cases h
    · rename_i x
      split at h
      · split at h
        · rename_i hb
          exact ⟨_, _, h, by simp; omega, by simp, rfl, rfl, by simp; omega, by simp, by simp⟩
        · cases h
      · rename_i y
        split at h
        · rename_i hb
          exact ⟨_, _, h, by simp; omega, by simp; omega, rfl, rfl, by simp; omega, by simp; omega, by simp⟩
        · cases h
  · rename_i m
    split at h
    · cases h
    · rename_i y
      split at h
      · split at h
        · rename_i hb
          refine ⟨_, _, h, by simp, by simp; omega, rfl, rfl, by simp, by simp; omega, fun m' hm => ?_⟩
          injection hm with hm; subst hm
          exact ⟨by omega, by simp; omega, hb.2.2, by simp⟩
        · cases h
      · rename_i x
        split at h
        · rename_i hb
          refine ⟨_, _, h, by simp; omega, by simp; omega, rfl, rfl, by simp; omega, by simp; omega, fun m' hm => ?_⟩
          injection hm with hm; subst hm
          exact ⟨by omega, by simp; omega, hb.2.2.2, by simp⟩
        · cases h
theorem cutL_eq {α : Type} (lo hi : Option Nat) (xs : List α) : cutL lo hi xs = (xs.drop (lo.getD 0)).take (hi.getD xs.length - lo.getD 0) := by
  unfold cutL
  cases hi with
  | none =>
    cases lo with
    | none => simp
    | some l => simp [List.take_of_length_le]
  | some h =>
    cases lo with
    | none => simp
    | some l => simp [List.drop_take]
theorem run_bound {k : IntKind} {i : Int} {y : Nat} {code : BoundsCode} (h0 : 0 ≤ i) (h1 : i ≤ y) : (Instr.sliceBound (.int k i) y code).run P w = .ok i.toNat w := by
  simp [Instr.sliceBound, asIntOf, h0, h1]
theorem bndOf_some {x : Option Operand} {b : Option Int} (hI : Inv X E ok st a w) (h : bndOf st x = some b) : (x = none ∧ b = none) ∨ ∃ k i, x.map a.eval = some (.int k i) ∧ b = some i := by
  unfold bndOf at h
  split at h
  · injection h with h; exact .inl ⟨rfl, h.symm⟩
  · rename_i y
    split at h
    · rename_i i hi
      injection h with h
      obtain ⟨k, hk⟩ := ixOf_some hI hi
      exact .inr ⟨k, i, by simp [hk], h.symm⟩
    · cases h
/-- The model's own bounds. -/
theorem run_bounds {isS : Bool} {len cap : Nat} {lo hi mx : Option Operand} {l' h' : Option Nat} {bl bh bm : Option Int} (hI : Inv X E ok st a w) (hl : bndOf st lo = some bl) (hh : bndOf st hi = some bh) (hm : bndOf st mx = some bm)
    (k1 : l'.getD 0 ≤ h'.getD len) (k2 : h'.getD len ≤ len) (k3 : l' = bl.map Int.toNat) (k4 : h' = bh.map Int.toNat) (k5 : ∀ x, bl = some x → 0 ≤ x) (k6 : ∀ x, bh = some x → 0 ≤ x)
    (k7 : ∀ m, bm = some m → 0 ≤ m ∧ (h'.getD len : Int) ≤ m ∧ m ≤ len ∧ bh ≠ none) (hc : len ≤ cap) :
    (Instr.sliceBounds isS len cap (lo.map a.eval) (hi.map a.eval) (mx.map a.eval)).run P w = .ok (l'.getD 0, h'.getD len, (bm.map Int.toNat).getD cap) w := by
  have hm' := bndOf_some hI hm
  have hh' := bndOf_some hI hh
  have hl' := bndOf_some hI hl
  subst k3
  subst k4
  rcases hm' with ⟨rfl, rfl⟩ | ⟨km, m, em, rfl⟩
  · rcases hh' with ⟨rfl, rfl⟩ | ⟨kh, y, eh, rfl⟩
    · rcases hl' with ⟨rfl, rfl⟩ | ⟨kl, x, el, rfl⟩
      · simp [Instr.sliceBounds]
      · have := k5 x rfl
        simp only [Option.map_some, Option.getD_some, Option.map_none, Option.getD_none] at k1 k2
        rw [el]
        simp only [Instr.sliceBounds, Option.map_none, Sem.run_bind, Sem.run_pure, Result.andThen_ok]
        rw [run_bound (by omega) (by omega)]
        simp
    · have hy := k6 y rfl
      simp only [Option.map_some, Option.getD_some] at k1 k2
      rw [eh]
      rcases hl' with ⟨rfl, rfl⟩ | ⟨kl, x, el, rfl⟩
      · simp only [Instr.sliceBounds, Option.map_none, Sem.run_bind, Sem.run_pure, Result.andThen_ok]
        rw [run_bound (by omega) (by omega)]
        simp
      · have := k5 x rfl
        simp only [Option.map_some, Option.getD_some] at k1
        rw [el]
        simp only [Instr.sliceBounds, Option.map_none, Sem.run_bind, Sem.run_pure, Result.andThen_ok]
        rw [run_bound (by omega) (by omega)]
        simp only [Result.andThen_ok]
        rw [run_bound (by omega) (by omega)]
        simp
  · obtain ⟨m0, m1, m2, m3⟩ := k7 m rfl
    rcases hh' with ⟨rfl, rfl⟩ | ⟨kh, y, eh, rfl⟩
    · exact absurd rfl m3
    · have hy := k6 y rfl
      simp only [Option.map_some, Option.getD_some] at k1 k2 m1
      rw [eh, em]
      rcases hl' with ⟨rfl, rfl⟩ | ⟨kl, x, el, rfl⟩
      · simp only [Instr.sliceBounds, Option.map_none, Sem.run_bind, Sem.run_pure, Result.andThen_ok]
        rw [run_bound (by omega) (by omega)]
        simp only [Result.andThen_ok]
        rw [run_bound (by omega) (by omega)]
        simp
      · have := k5 x rfl
        simp only [Option.map_some, Option.getD_some] at k1
        rw [el]
        simp only [Instr.sliceBounds, Option.map_none, Sem.run_bind, Sem.run_pure, Result.andThen_ok]
        rw [run_bound (by omega) (by omega)]
        simp only [Result.andThen_ok]
        rw [run_bound (by omega) (by omega)]
        simp only [Result.andThen_ok]
        rw [run_bound (by omega) (by omega)]
        simp
theorem run_slice {t e : TypeId} {sz len cap : Nat} {A : Option Addr} {lo hi mx : Option Value} {l h m : Nat} (hu : P.underlying t = some (.slice e)) (hs : sizeP P e = some sz) (hb : (Instr.sliceBounds true len cap lo hi mx).run P w = .ok (l, h, m) w) :
    (Instr.sliceAt t (.slice A len cap) lo hi mx).run P w = .ok (.slice (if m = l then A else A.map (·.add (l * sz))) (h - l) (m - l)) w := by
  simp only [Instr.sliceAt, Sem.run_bind, run_und hu, Result.andThen_ok, Instr.slice, hb, run_size hs, Sem.run_pure]
theorem run_sliceS {t : TypeId} {s : ByteArray} {lo hi : Option Value} {l h m : Nat} (hu : P.underlying t = some .string) (hb : (Instr.sliceBounds false s.size s.size lo hi none).run P w = .ok (l, h, m) w) :
    (Instr.sliceAt t (.string s) lo hi none).run P w = .ok (.string (s.extract l h)) w := by
  simp [Instr.sliceAt, run_und hu, Instr.slice, hb]
theorem run_sliceA {t e : TypeId} {sz n g o : Nat} {lo hi mx : Option Value} {l h m : Nat} (hu : P.underlying t = some (.array n e)) (hs : sizeP P e = some sz) (hb : (Instr.sliceBounds false n n lo hi mx).run P w = .ok (l, h, m) w) :
    (Instr.sliceAt t (.pointer (some ⟨g, o, none⟩)) lo hi mx).run P w = .ok (.slice (if m = l then some ⟨g, o, none⟩ else some ((⟨g, o, none⟩ : Addr).add (l * sz))) (h - l) (m - l)) w := by
  simp only [Instr.sliceAt, Instr.sureAddr, Sem.run_bind, run_und hu, Result.andThen_ok, hb, run_size hs, Sem.run_pure]
  split <;> rfl
theorem cutS_eq (lo hi : Option Nat) (s : ByteArray) : cutS lo hi s = s.extract (lo.getD 0) (hi.getD s.size) := by
  unfold cutS
  cases hi with
  | none =>
    cases lo with
    | none => simp [ByteArray.extract_zero_size]
    | some l => rfl
  | some h => cases lo <;> rfl
theorem cutOff_eq (lo : Option Nat) (off : Nat) : cutOff lo off = off + lo.getD 0 := by cases lo <;> rfl
theorem cutLen_eq (lo hi : Option Nat) (len : Nat) : cutLen lo hi len = hi.getD len - lo.getD 0 := by cases lo <;> cases hi <;> rfl
theorem s_slice {t : TypeId} {x : Operand} {lo hi mx : Option Operand} (hI : Inv X E ok st a w) (ho : o.op = .slice t x lo hi mx)
    (h : (match bndOf st lo, bndOf st hi, bndOf st mx with
    | some l, some h, some m =>
      match st.op x with
      | .a (.c (.str s)) =>
        match P.underlying t, m with
        | some .string, none => cutK l h none s.size fun l h => K (.one (.str (cutS l h s))) st
        | _, _ => none
      | .a (.c p) =>
        match elemP P t with
        | some e =>
          match p with
          | .sl c xs => if sizeP P e = some c.sz then cutK l h m xs.length fun l h => K (.one (.sl c (cutL l h xs))) st else none
          | .own i ver =>
            match st.arr? i ver with
            | some A => if sizeP P e = some A.c.sz then cutK l h m A.l.length fun l h => K (.one (.view i ver (cutOff l 0) (cutLen l h A.l.length))) st else none
            | none => none
          | .view i ver off len =>
            match st.arr? i ver with
            | some A => if sizeP P e = some A.c.sz then cutK l h m len fun l h => K (.one (.view i ver (cutOff l off) (cutLen l h len))) st else none
            | none => none
          | _ => none
        | none =>
          match arrE P t with
          | some (n, e) =>
            match p with
            | .arr i ver 0 0 =>
              match st.arr? i ver with
              | some A => if sizeP P e = some A.c.sz ∧ A.l.length = n then cutK l h m n fun l h => K (.one (.view i ver (cutOff l 0) (cutLen l h n))) st else none
              | none => none
            | _ => none
          | none => none
      | _ => none
    | _, _, _ => none) = some r) : OpSound P X E ok o st a w K r := by
  split at h
  · rename_i bl bh bm hl hh hm
    split at h
    · rename_i s hx
      have hr : a.eval x = .string s := relC_of hI hx
      split at h
      · rename_i hu
        obtain ⟨l', h', h, k1, k2, k3, k4, k5, k6, k7⟩ := cutK_sound h
        have hb := run_bounds (P := P) (w := w) (isS := false) (cap := s.size) hI hl hh hm k1 k2 k3 k4 k5 k6 (by simp) (Nat.le_refl _)
        rcases bndOf_some hI hm with ⟨rfl, _⟩ | ⟨_, _, _, hc⟩
        · refine ⟨_, _, h, goes_pure hI (run_value (s := Instr.sliceAt t (a.eval x) (lo.map a.eval) (hi.map a.eval) none) (by simp only [execOp, ho, Option.map_none]) (by rw [hr]; exact run_sliceS hu hb)) ?_⟩
          show Value.string _ = Value.string _
          rw [cutS_eq]
        · cases hc
      · cases h
    · rename_i p hnstr hx
      have hr := relC_of hI hx
      split at h
      · rename_i e he
        have hu := elemP_some he
        split at h
        · rename_i c xs
          split at h
          · rename_i hsz
            obtain ⟨l', h', h, k1, k2, k3, k4, k5, k6, k7⟩ := cutK_sound h
            obtain ⟨A, cap, e1, c1, c2⟩ := hr
            have hb := run_bounds (P := P) (w := w) (isS := true) hI hl hh hm k1 k2 k3 k4 k5 k6 k7 c1
            have hrun := run_slice (A := A) hu hsz hb
            rw [← e1] at hrun
            have hmx : h'.getD xs.length ≤ (bm.map Int.toNat).getD cap := by
              cases bm with
              | none => simp; omega
              | some m => have := k7 m rfl; simp; omega
            refine ⟨_, _, h, goes_pure hI (run_value (s := Instr.sliceAt t (a.eval x) (lo.map a.eval) (hi.map a.eval) (mx.map a.eval)) (by simp only [execOp, ho]) hrun) ?_⟩
            have hlen : (cutL l' h' xs).length = h'.getD xs.length - l'.getD 0 := by rw [cutL_eq]; simp; omega
            refine ⟨_, _, by rw [hlen], by rw [hlen]; omega, fun hn => ?_⟩
            have hlt : l'.getD 0 < h'.getD xs.length := by
              rcases Nat.lt_or_ge (l'.getD 0) (h'.getD xs.length) with hq | hq
              · exact hq
              · exact absurd (List.eq_nil_of_length_eq_zero (by rw [hlen]; omega)) hn
            obtain ⟨g, o', rfl, k8, cur, e', fr, k9, k10⟩ := c2 (by intro hh; rw [hh] at k2 hlt; simp only [List.length_nil] at k2 hlt; omega)
            refine ⟨g, o' + l'.getD 0 * c.sz, ?_, k8, cur, e', fr, k9, fun j u hj => ?_⟩
            · rw [if_neg (by omega)]
              simp [addr_add]
            · rw [cutL_eq] at hj
              have := k10 _ u (flatV_sub hj)
              rwa [← Nat.add_assoc] at this
          · cases h
        · rename_i i ver
          split at h
          · rename_i A hA
            obtain ⟨hA, hver⟩ := arr?_some hA
            split at h
            · rename_i hsz
              obtain ⟨l', h', h, k1, k2, k3, k4, k5, k6, k7⟩ := cutK_sound h
              obtain ⟨A', c1, c0, c2⟩ := hr
              rw [hA] at c1; injection c1 with c1; injection c1 with c1; subst c1
              have c3 := c2 hver
              have c4 := hI.ar i A hA
              have main : ∀ {D : Option Addr} {cap : Nat}, a.eval x = .slice D A.l.length cap → A.l.length ≤ cap →
                  (A.l.length ≠ 0 → ∃ g o' cp e, E.ar i = some (g, o', cp, e) ∧ D = some ⟨g, o', none⟩ ∧ cap ≤ cp) → OpSound P X E ok o st a w K r := by
                intro D cap e1 d1 d2
                have hb := run_bounds (P := P) (w := w) (isS := true) hI hl hh hm k1 k2 k3 k4 k5 k6 k7 d1
                have hrun := run_slice (A := D) hu hsz hb
                rw [← e1] at hrun
                have hmx : h'.getD A.l.length ≤ (bm.map Int.toNat).getD cap ∧ (bm.map Int.toNat).getD cap ≤ cap := by
                  cases bm with
                  | none => simp; omega
                  | some m => have := k7 m rfl; simp; omega
                refine ⟨_, _, h, goes_pure hI (run_value (s := Instr.sliceAt t (a.eval x) (lo.map a.eval) (hi.map a.eval) (mx.map a.eval)) (by simp only [execOp, ho]) hrun) ⟨A, hA, c0, fun _ => ⟨?_, if (bm.map Int.toNat).getD cap = l'.getD 0 then D else D.map (·.add (l'.getD 0 * A.c.sz)), (bm.map Int.toNat).getD cap - l'.getD 0, ?_, ?_, fun hp => ?_⟩⟩⟩
                · rw [cutOff_eq, cutLen_eq]; omega
                · rw [cutLen_eq]
                · rw [cutLen_eq]; omega
                · rw [cutLen_eq] at hp
                  obtain ⟨g, o', cp, e, m1, rfl, m2⟩ := d2 (by omega)
                  refine ⟨g, o', cp, e, m1, ?_, ?_⟩
                  · rw [if_neg (by omega)]
                    simp [addr_add, cutOff_eq]
                  · rw [cutOff_eq]; omega
              cases hE : E.ar i with
              | none =>
                rw [hE] at c3 c4
                have c4 : A.l = [] := c4
                exact main (D := none) (cap := 0) (by rw [c4]; exact c3) (by rw [c4]; simp) (fun hn => absurd (by rw [c4]; rfl) hn)
              | some q =>
                obtain ⟨g, o', cp, e'⟩ := q
                rw [hE] at c3 c4
                exact main c3 c4.1 (fun _ => ⟨g, o', cp, e', hE, rfl, Nat.le_refl _⟩)
            · cases h
          · cases h
        · rename_i i ver off len
          split at h
          · rename_i A hA
            obtain ⟨hA, hver⟩ := arr?_some hA
            split at h
            · rename_i hsz
              obtain ⟨l', h', h, k1, k2, k3, k4, k5, k6, k7⟩ := cutK_sound h
              obtain ⟨A', c1, c0, c2⟩ := hr
              rw [hA] at c1; injection c1 with c1; injection c1 with c1; subst c1
              obtain ⟨c3, ad, cap, e1, c4, c5⟩ := c2 hver
              have hb := run_bounds (P := P) (w := w) (isS := true) hI hl hh hm k1 k2 k3 k4 k5 k6 k7 c4
              have hrun := run_slice (A := ad) hu hsz hb
              rw [← e1] at hrun
              have hmx : h'.getD len ≤ (bm.map Int.toNat).getD cap ∧ (bm.map Int.toNat).getD cap ≤ cap := by
                cases bm with
                | none => simp; omega
                | some m => have := k7 m rfl; simp; omega
              refine ⟨_, _, h, goes_pure hI (run_value (s := Instr.sliceAt t (a.eval x) (lo.map a.eval) (hi.map a.eval) (mx.map a.eval)) (by simp only [execOp, ho]) hrun) ⟨A, hA, c0, fun _ => ⟨?_, if (bm.map Int.toNat).getD cap = l'.getD 0 then ad else ad.map (·.add (l'.getD 0 * A.c.sz)), (bm.map Int.toNat).getD cap - l'.getD 0, ?_, ?_, fun hp => ?_⟩⟩⟩
              · rw [cutOff_eq, cutLen_eq]; omega
              · rw [cutLen_eq]
              · rw [cutLen_eq]; omega
              · rw [cutLen_eq] at hp
                obtain ⟨g, o', cp, e, m1, rfl, m2⟩ := c5 (by omega)
                refine ⟨g, o', cp, e, m1, ?_, ?_⟩
                · rw [if_neg (by omega)]
                  simp [addr_add, cutOff_eq, Nat.add_mul, Nat.add_assoc]
                · rw [cutOff_eq]; omega
            · cases h
          · cases h
        · cases h
      · split at h
        · rename_i n e hae
          have hu := arrE_some hae
          split at h
          · rename_i i ver
            split at h
            · rename_i A hA
              obtain ⟨hA, hver⟩ := arr?_some hA
              split at h
              · rename_i hc
                obtain ⟨hsz, hn⟩ := hc
                obtain ⟨l', h', h, k1, k2, k3, k4, k5, k6, k7⟩ := cutK_sound h
                obtain ⟨A', c1, c0, c2⟩ := hr
                rw [hA] at c1; injection c1 with c1; injection c1 with c1; subst c1
                obtain ⟨_, g, o', cp, e', hE, e1⟩ := c2 hver
                have c4 := hI.ar i A hA
                rw [hE] at c4
                have hb := run_bounds (P := P) (w := w) (isS := false) (cap := n) hI hl hh hm k1 k2 k3 k4 k5 k6 k7 (Nat.le_refl _)
                have hrun := run_sliceA (g := g) (o := o') hu hsz hb
                have e1 : a.eval x = .pointer (some ⟨g, o', none⟩) := by simpa using e1
                rw [← e1] at hrun
                have hmx : h'.getD n ≤ (bm.map Int.toNat).getD n ∧ (bm.map Int.toNat).getD n ≤ n := by
                  cases bm with
                  | none => simp; omega
                  | some m => have := k7 m rfl; simp; omega
                refine ⟨_, _, h, goes_pure hI (run_value (s := Instr.sliceAt t (a.eval x) (lo.map a.eval) (hi.map a.eval) (mx.map a.eval)) (by simp only [execOp, ho]) hrun) ⟨A, hA, c0, fun _ => ⟨?_, (if (bm.map Int.toNat).getD n = l'.getD 0 then some ⟨g, o', none⟩ else some ((⟨g, o', none⟩ : Addr).add (l'.getD 0 * A.c.sz))), (bm.map Int.toNat).getD n - l'.getD 0, ?_, ?_, fun hp => ?_⟩⟩⟩
                · rw [cutOff_eq, cutLen_eq]; omega
                · rw [cutLen_eq]
                · rw [cutLen_eq]; omega
                · rw [cutLen_eq] at hp
                  refine ⟨g, o', cp, e', hE, ?_, ?_⟩
                  · rw [if_neg (by omega)]
                    simp [addr_add, cutOff_eq]
                  · rw [cutOff_eq]; have := c4.1; omega
              · cases h
            · cases h
          · cases h
        · cases h
    · cases h
  · cases h
end Go.Eng
end
section
set_option linter.unusedVariables false
set_option linter.unusedSimpArgs false
namespace Go.Eng
variable {R : Type} {P : Program} {X : Ctx} {E : Env} {ok : Nat → Prop} {st : St} {a : Act} {w : World} {r : R} {o : Oper} {K : PV → St → Option R}

/-- A row that grew: in its own place, or in a new block. -/
theorem Inv.growAr (hI : Inv X E ok st a w) {i : Nat} {A : AR} (hA : st.ar[i]? = some (some A)) (hz : A.fz = false) (hlt : A.lt = false) {w' : World} {row : Option Nat} (hg : w.grownBy w' row)
    (hrow : ∀ k, row = some k → ∃ o c e, E.ar i = some (k, o, c, e)) {c : Cd} {l' : List c.ty} {v : Nat} (hv : A.ver < v) {p : Place} (hok : ArOk w' ⟨c, l', v, false, false⟩ p)
    (hp : ∀ g o c e, p = some (g, o, c, e) → (∃ o c e, E.ar i = some (g, o, c, e)) ∨ g = w.heap.size) :
    Inv X (E.setAr i p) ok (st.setAr i ⟨c, l', v, false, false⟩) a w' := by
  have hnok : ∀ k, row = some k → ¬ ok k := fun k hk hok => by
    obtain ⟨o, c, e, he⟩ := hrow k hk
    have := (hI.arok i A k o c e hA he).1 hok
    rw [hz] at this; cases this
  have hnew : ∀ k, row = some k → X.w0.heap.size ≤ k := fun k hk => by
    obtain ⟨o, c, e, he⟩ := hrow k hk
    have := hI.arnew i A k o c e hA he
    rw [hlt] at this
    simpa using this
  have hil : i < st.ar.length := get_lt hA
  have ho : ∀ k, k < w.heap.size → row ≠ some k → w'.heap[k]? = w.heap[k]? := fun k hk hne => hg.block k hk (Ne.symm hne)
  have q1 : ∀ j, i ≠ j → (E.setAr i p).ar j = E.ar j := fun j h => by simp [Env.setAr, Ne.symm h]
  have q2 : (E.setAr i p).ar i = p := by simp [Env.setAr]
  have hx : Ext w E ok st w' (E.setAr i p) ok (st.setAr i ⟨c, l', v, false, false⟩) := by
    refine ⟨fun k hk => ho k (hI.oklt k hk) (fun e => hnok k e hk), fun _ h => h, fun b cs h => ⟨⟨cs, h⟩, rfl⟩, fun j B h => ?_⟩
    by_cases e : i = j
    · subst e
      rw [hA] at h; injection h with h; injection h with h; subst h
      exact ⟨_, List.getElem?_set_self hil, Nat.le_of_lt hv, fun hh => by simp at hh; omega⟩
    · exact ⟨B, (List.getElem?_set_ne e).trans h, Nat.le_refl _, fun _ => ⟨rfl, rfl, q1 j e⟩⟩
  have key : ∀ j B, (st.setAr i ⟨c, l', v, false, false⟩).ar[j]? = some (some B) → (i = j ∧ (⟨c, l', v, false, false⟩ : AR) = B) ∨ (i ≠ j ∧ st.ar[j]? = some (some B)) := fun j B h => set_some h hil
  have hbxrow : ∀ b cs k, st.bx[b]? = some (some cs) → E.foot b k → row ≠ some k := fun b cs k hb hf e => by
    obtain ⟨o, c, e', he⟩ := hrow _ e
    exact hI.arbx i A b cs _ o c e' hA hb he hf
  have harrow : ∀ j B g o c e, i ≠ j → st.ar[j]? = some (some B) → E.ar j = some (g, o, c, e) → row ≠ some g := fun j B g o c e hne hB he hh => by
    obtain ⟨o', c', e', he'⟩ := hrow _ hh
    exact hne (hI.arne i j A B g o' c' e' g o c e hA hB he' he rfl)
  have harlt : ∀ j B g o c e, st.ar[j]? = some (some B) → E.ar j = some (g, o, c, e) → g < w.heap.size := fun j B g o c e hB he => by
    have := hI.ar j B hB
    rw [he] at this
    exact this.lt
  refine { hI with
    len := hI.len
    tm := fun t q u hp hu => (hI.tm t q u hp hu).ext hx
    bx := fun b cs hb => ?_
    ar := fun j B hB => ?_
    arlen := by simp [St.setAr, hI.arlen]
    arne := fun j j' B B' g1 o1 c1 e1 g2 o2 c2 e2 h h' hg1 hg2 hgg => ?_
    arbx := fun j B b cs g1 o1 c1 e1 h hb hg1 => ?_
    arok := fun j B g1 o1 c1 e1 h hg1 => ?_
    arnew := fun j B g1 o1 c1 e1 h hg1 => ?_
    bxok := fun b cs k hb hk => by
      obtain ⟨k1, k2, k3⟩ := hI.bxok b cs k hb hk
      exact ⟨k1, k2, Nat.lt_of_lt_of_le k3 hg.size⟩
    oklt := fun k hk => Nat.lt_of_lt_of_le (hI.oklt k hk) hg.size
    size := Nat.le_trans hI.size hg.size
    frame := fun k hk hn => ?_
    lent := fun g1 o1 n1 hg1 => ?_
    lentat := fun j s q' hj => by
      obtain ⟨B, k1, k2, k3, k4, k5⟩ := hI.lentat j s q' hj
      by_cases e : i = j
      · subst e
        rw [hA] at k1; injection k1 with k1; injection k1 with k1; subst k1
        rw [hlt] at k2; cases k2
      · exact ⟨B, (List.getElem?_set_ne e).trans k1, k2, k3, k4, (q1 j e).trans k5⟩
    os := hg.os.trans hI.os, tape := hg.tape.trans hI.tape, output := hg.output.trans hI.output }
  · exact (hI.bx b cs hb).ext (fun k hk => ho k (hI.foot_lt hb hk) (hbxrow b cs k hb hk)) hx
  · rcases key j B hB with ⟨rfl, rfl⟩ | ⟨hne, h⟩
    · rw [q2]; exact hok
    · rw [q1 j hne]
      exact (hI.ar j B h).ext (fun g1 o1 c1 e1 hg1 => ho g1 (harlt j B g1 o1 c1 e1 h hg1) (harrow j B g1 o1 c1 e1 hne h hg1))
  · rcases key j B h with ⟨rfl, rfl⟩ | ⟨hne, h⟩ <;> rcases key j' B' h' with ⟨rfl, rfl⟩ | ⟨hne', h'⟩
    · rfl
    · rw [q2] at hg1; rw [q1 j' hne'] at hg2
      rcases hp _ _ _ _ hg1 with ⟨o', c', e', he'⟩ | rfl
      · exact hI.arne i j' A B' g1 o' c' e' g2 o2 c2 e2 hA h' he' hg2 hgg
      · have := harlt j' B' g2 o2 c2 e2 h' hg2; omega
    · rw [q2] at hg2; rw [q1 j hne] at hg1
      rcases hp _ _ _ _ hg2 with ⟨o', c', e', he'⟩ | rfl
      · exact (hI.arne i j A B g2 o' c' e' g1 o1 c1 e1 hA h he' hg1 hgg.symm).symm
      · have := harlt j B g1 o1 c1 e1 h hg1; omega
    · rw [q1 j hne] at hg1; rw [q1 j' hne'] at hg2
      exact hI.arne j j' B B' g1 o1 c1 e1 g2 o2 c2 e2 h h' hg1 hg2 hgg
  · rcases key j B h with ⟨rfl, rfl⟩ | ⟨hne, h⟩
    · rw [q2] at hg1
      rcases hp _ _ _ _ hg1 with ⟨o', c', e', he'⟩ | rfl
      · exact hI.arbx i A b cs g1 o' c' e' hA hb he'
      · exact fun hh => by have := hI.foot_lt hb hh; omega
    · rw [q1 j hne] at hg1
      exact hI.arbx j B b cs g1 o1 c1 e1 h hb hg1
  · rcases key j B h with ⟨rfl, rfl⟩ | ⟨hne, h⟩
    · rw [q2] at hg1
      refine ⟨fun hk => ?_, fun hk => by simp at hk⟩
      rcases hp _ _ _ _ hg1 with ⟨o', c', e', he'⟩ | rfl
      · have := (hI.arok i A g1 o' c' e' hA he').1 hk
        rw [hz] at this; cases this
      · have := hI.oklt _ hk; omega
    · rw [q1 j hne] at hg1
      exact hI.arok j B g1 o1 c1 e1 h hg1
  · rcases key j B h with ⟨rfl, rfl⟩ | ⟨hne, h⟩
    · rw [q2] at hg1
      simp only [Bool.false_eq_true, if_false]
      rcases hp _ _ _ _ hg1 with ⟨o', c', e', he'⟩ | rfl
      · have := hI.arnew i A g1 o' c' e' hA he'
        rw [hlt] at this
        simpa using this
      · exact hI.size
    · rw [q1 j hne] at hg1
      exact hI.arnew j B g1 o1 c1 e1 h hg1
  · exact (ho k (Nat.lt_of_lt_of_le hk hI.size) (fun e => by have := hnew k e; omega)).trans (hI.frame k hk hn)
  · obtain ⟨h1, cur0, cur, e, h2, h3, h4⟩ := hI.lent g1 o1 n1 hg1
    exact ⟨h1, cur0, cur, e, h2, (ho g1 (Nat.lt_of_lt_of_le h1 hI.size) (fun e => by have := hnew g1 e; omega)).trans h3, h4⟩

/-- The zero of an element. -/
theorem zeroIs_eq : ∀ (c : Cd) (vs r : List Value), zeroIs c vs = some r → vs = c.encV c.dflt ++ r
  | .int k, vs, r, h => by
    unfold zeroIs at h
    split at h
    · rename_i k' n r'
      split at h
      · rename_i hk
        obtain ⟨rfl, rfl⟩ := hk
        injection h with h; subst h
        rfl
      · cases h
    · cases h
  | .bool, vs, r, h => by
    unfold zeroIs at h
    split at h
    · rename_i b r'
      split at h
      · rename_i hk
        subst hk
        injection h with h; subst h
        rfl
      · cases h
    · cases h
  | .str, vs, r, h => by
    unfold zeroIs at h
    split at h
    · rename_i s r'
      split at h
      · rename_i hk
        injection h with h; subst h
        have : s = ⟨#[]⟩ := by
          obtain ⟨⟨l⟩⟩ := s
          have : l = [] := by simpa [ByteArray.size] using hk
          subst this; rfl
        subst this
        rfl
      · cases h
    · cases h
  | .pr a b, vs, r, h => by
    unfold zeroIs at h
    split at h
    · rename_i r' h1
      rw [zeroIs_eq a vs r' h1, zeroIs_eq b r' r h]
      simp [Cd.encV, Cd.dflt]
    · cases h
theorem zeroOk_some {e : TypeId} {c : Cd} (h : zeroOk P e c = true) : ∃ i z, P.info? e = some i ∧ i.zero = some z ∧ i.size = c.sz ∧ z.cells.toList = c.encV c.dflt := by
  unfold zeroOk at h
  split at h
  · rename_i i hi
    split at h
    · rename_i z hz
      simp only [Bool.and_eq_true, beq_iff_eq] at h
      obtain ⟨h1, h2⟩ := h
      refine ⟨i, z, hi, hz, h1, ?_⟩
      split at h2
      · rename_i h3
        have := zeroIs_eq c _ _ h3
        simpa using this
      · cases h2
    · cases h
  · cases h
theorem flatV_replicate_get (c : Cd) (x : c.ty) : ∀ (n j : Nat), j < n * c.sz → (flatV c (List.replicate n x))[j]? = (c.encV x)[j % c.sz]?
  | 0, j, h => by simp at h
  | n + 1, j, h => by
    rw [List.replicate_succ, flatV_cons, List.getElem?_append, encV_length]
    split
    · rename_i hj
      rw [Nat.mod_eq_of_lt hj]
    · rename_i hj
      rw [flatV_replicate_get c x n (j - c.sz) (by rw [Nat.add_mul, Nat.one_mul] at h; omega)]
      congr 1
      rw [← Nat.mod_eq_sub_mod (by omega)]
theorem made_eq {z : Array Value} {c : Cd} (hz : z.toList = c.encV c.dflt) (n : Nat) : madeCells z (n * c.sz) = (flatV c (List.replicate n c.dflt)).toArray := by
  have hs : z.size = c.sz := by rw [← Array.length_toList, hz, encV_length]
  apply Array.ext_getElem?
  intro j
  by_cases hj : j < n * c.sz
  · rw [show (flatV c (List.replicate n c.dflt)).toArray[j]? = (flatV c (List.replicate n c.dflt))[j]? from List.getElem?_toArray .., flatV_replicate_get c _ n j hj]
    have hp := sz_pos c
    have hm : j % c.sz < c.sz := Nat.mod_lt _ hp
    simp only [madeCells, Array.getElem?_map, Array.getElem?_range, hj, if_true, Option.map_some, hs]
    rw [← hz, Array.getElem?_toList, getElem!_pos z _ (by rw [hs]; exact hm), Array.getElem?_eq_getElem (by rw [hs]; exact hm)]
  · rw [Array.getElem?_eq_none (by rw [size_madeCells]; omega), show (flatV c (List.replicate n c.dflt)).toArray[j]? = (flatV c (List.replicate n c.dflt))[j]? from List.getElem?_toArray .., List.getElem?_eq_none (by rw [flatV_length, List.length_replicate]; omega)]
theorem opEq_eval {n m : Operand} (h : opEq n m = true) : a.eval n = a.eval m := by
  unfold opEq at h
  split at h
  · simp at h; subst h; rfl
  · simp at h; subst h; rfl
  · cases h
/-- A new row of so many cells. -/
theorem Inv.newRow (hI : Inv X E ok st a w) {i : Nat} (hi : st.ar[i]? = some none) {c : Cd} {l : List c.ty} {cur : Array Value} {cap : Nat} (e : TypeId) (hl : l.length ≤ cap) (hcap : cap ≤ maxLen) (hs : cur.size = cap * c.sz)
    (hc : ∀ (j : Nat) (u : Value), (flatV c l)[j]? = some u → cur[j]? = some u) :
    ∃ E', Inv X E' ok (st.setAr i ⟨c, l, 0, false, false⟩) a (w.alloc (.cells cur e)) ∧
      RelC (w.alloc (.cells cur e)) E' ok (st.setAr i ⟨c, l, 0, false, false⟩) (.own i 0) (.slice (some ⟨w.heap.size, 0, none⟩) l.length cap) := by
  have hn := FreeRow.new hI 0 cap e
  have hf : FreeRow X E ok st (some (w.heap.size, 0, cap, e)) := hn
  obtain ⟨h1, _⟩ := (hI.alloc (.cells cur e)).addAr hi (c := c) (l := l) (p := some (w.heap.size, 0, cap, e)) ⟨hl, hcap, cur, heap_alloc_new w _, by rw [hs, Nat.zero_add]; exact Nat.le_refl _, fun _ => ⟨rfl, hs⟩, fun j u hj => by rw [Nat.zero_add]; exact hc j u hj⟩ hf
  exact ⟨_, h1, relC_own (p := some (w.heap.size, 0, cap, e)) (get_lt hi)⟩
theorem s_makeSlice {t : TypeId} {n m : Operand} (hI : Inv X E ok st a w) {slot : Nat} (ho : o.op = .makeSlice t n m)
    (h : (match elemP P t with
    | some e =>
      match cdOf P 8 e with
      | some c =>
        match st.op n with
        | .a (.c (.int .i64 x)) =>
          if opEq n m && zeroOk P e c && decide (0 < bytesP P e) then
            match st.newAr (2 * slot) ⟨c, List.replicate x.toNat c.dflt, 0, false, false⟩ with
            | some st1 => if 0 ≤ x ∧ x * bytesP P e ≤ 140737488355328 then K (.one (.own (2 * slot) 0)) st1 else none
            | none => none
          else none
        | _ => none
      | none => none
    | none => none) = some r) : OpSound P X E ok o st a w K r := by
  split at h
  · rename_i e he
    split at h
    · rename_i c hc
      split at h
      · rename_i x hx
        split at h
        · rename_i hcond
          simp only [Bool.and_eq_true, decide_eq_true_eq] at hcond
          obtain ⟨⟨hnm, hzo⟩, hby⟩ := hcond
          split at h
          · rename_i st1 hs
            obtain ⟨hn, rfl⟩ := newAr_some hs
            split at h
            · rename_i hx2
              obtain ⟨hx0, hxb⟩ := hx2
              have hv : a.eval n = .int .i64 x := relC_of hI hx
              have hv2 : a.eval m = .int .i64 x := (opEq_eval hnm).symm.trans hv
              obtain ⟨i, z, hi, hz, hsz, hzc⟩ := zeroOk_some hzo
              have hbe : bytesP P e = i.bytes := by simp [bytesP, Program.bytesOf, hi]
              rw [hbe] at hxb hby
              have hle : x ≤ 140737488355328 := by
                have : x * 1 ≤ x * (i.bytes : Int) := Int.mul_le_mul_of_nonneg_left (by omega) hx0
                omega
              have hr := run_make (P := P) w t e i z (elemP_some he) hi hz .i64 .i64 x x hx0 (Int.le_refl _) (by rw [Int.mul_comm]; omega) (by omega)
              rw [hsz, made_eq hzc] at hr
              obtain ⟨E', h1, h2⟩ := hI.newRow hn (c := c) (l := List.replicate x.toNat c.dflt) (cur := (flatV c (List.replicate x.toNat c.dflt)).toArray) (cap := x.toNat) e (by simp) (by simp only [maxLen]; omega)
                (by rw [List.size_toArray, flatV_length, List.length_replicate]) (fun j u hj => (List.getElem?_toArray ..).trans hj)
              rw [List.length_replicate] at h2
              exact ⟨_, _, h, goes_run (run_value (s := Instr.makeSlice t (a.eval n) (a.eval m)) (by simp only [execOp, ho]) (by rw [hv, hv2]; exact hr)) ⟨E', ok, h1, h2⟩⟩
            · cases h
          · cases h
        · cases h
      · cases h
    · cases h
  · cases h
end Go.Eng
end
section
set_option linter.unusedVariables false
set_option linter.unusedSimpArgs false
namespace Go.Eng
variable {R : Type} {P : Program} {X : Ctx} {E : Env} {ok : Nat → Prop} {st : St} {a : Act} {w : World} {r : R} {o : Oper} {K : PV → St → Option R}

theorem run_builtin {o : Oper} {c : Call} {b : Builtin} (ho : o.op = .call c) (hc : c.callee = .builtin b) :
    (execOp a.eval o).run P w = (builtin b c.argTypes o.type (c.args.map fun | .const _ => true | _ => false) (c.args.map a.eval)).run P w := by
  simp only [execOp, ho, resolve, invoke, hc, Sem.run_bind, Sem.run_pure, Result.andThen_ok]; rfl
/-- The slice that a cell stands for. -/
theorem slice_of {q : PC} {ys : SL} {v : Value} (hI : Inv X E ok st a w) (h : st.sl? q = some ys) (hr : RelC w E ok st q v) :
    ∃ A cap, v = .slice A ys.l.length cap ∧ (ys.l ≠ [] → ∃ g o, A = some ⟨g, o, none⟩ ∧ Holds w g o (flatV ys.c ys.l)) := by
  unfold St.sl? at h
  split at h
  · injection h with h; subst h
    obtain ⟨A, cap, h1, h2, h3⟩ := hr
    refine ⟨A, cap, h1, fun hn => ?_⟩
    obtain ⟨g, o, h4, _, h5⟩ := h3 hn
    exact ⟨g, o, h4, h5⟩
  · split at h
    · rename_i A hA
      obtain ⟨hA, hver⟩ := arr?_some hA
      injection h with h; subst h
      obtain ⟨A', k1, _, k2⟩ := hr
      rw [hA] at k1; injection k1 with k1; injection k1 with k1; subst k1
      have k3 := k2 hver
      have k4 := hI.ar _ A hA
      split at k3
      · rename_i he
        rw [he] at k4
        have k4 : A.l = [] := k4
        exact ⟨none, 0, by rw [k4]; exact k3, fun hn => absurd k4 hn⟩
      · rename_i g o cap e he
        rw [he] at k4
        obtain ⟨m1, m2, cur, m3, m4, m5, m6⟩ := k4
        exact ⟨_, _, k3, fun _ => ⟨g, o, rfl, cur, e, _, m3, m6⟩⟩
    · cases h
  · rename_i off len
    split at h
    · rename_i A hA
      obtain ⟨hA, hver⟩ := arr?_some hA
      injection h with h; subst h
      obtain ⟨A', k1, _, k2⟩ := hr
      rw [hA] at k1; injection k1 with k1; injection k1 with k1; subst k1
      obtain ⟨k3, ad, cap, k4, k5, k6⟩ := k2 hver
      have hlen : ((A.l.drop off).take len).length = len := by simp; omega
      refine ⟨ad, cap, by rw [hlen]; exact k4, fun hn => ?_⟩
      have hp : 0 < len := by
        rcases Nat.eq_zero_or_pos len with h0 | h0
        · exact absurd (List.eq_nil_of_length_eq_zero (hlen.trans h0)) hn
        · exact h0
      obtain ⟨g, o, cp, e, k7, k8, k9⟩ := k6 hp
      have k10 := hI.ar _ A hA
      rw [k7] at k10
      obtain ⟨m1, m2, cur, m3, m4, m5, m6⟩ := k10
      refine ⟨g, o + off * A.c.sz, k8, cur, e, _, m3, fun j u hj => ?_⟩
      have := m6 _ u (flatV_sub hj)
      rwa [← Nat.add_assoc] at this
    · cases h
  · cases h
theorem args_two {c : Call} {x y : Operand} (h : c.args.toList = [x, y]) : c.args.map a.eval = #[a.eval x, a.eval y] := by
  have : c.args = #[x, y] := by rw [← Array.toList_inj]; exact h
  rw [this]; simp
theorem args_one {c : Call} {x : Operand} (h : c.args.toList = [x]) : c.args.map a.eval = #[a.eval x] := by
  have : c.args = #[x] := by rw [← Array.toList_inj]; exact h
  rw [this]; simp
theorem s_len {c : Call} (hI : Inv X E ok st a w) (ho : o.op = .call c) (hc : c.callee = .builtin .len)
    (h : lenK P st c.args.toList c.argTypes.toList (fun q => K (.one q) st) = some r) : OpSound P X E ok o st a w K r := by
  have key : ∀ {x t q n}, c.args.toList = [x] → c.argTypes.toList = [t] → (Builtin.len_ #[t] o.type #[a.eval x]).run P w = .ok (.int .i64 n) w → q = PC.int .i64 n → K (.one q) st = some r → OpSound P X E ok o st a w K r := by
    intro x t q n hx ht hr hq hK
    subst hq
    refine ⟨_, _, hK, goes_pure (v' := .int .i64 n) hI ?_ rfl⟩
    have ht' : c.argTypes = #[t] := by rw [← Array.toList_inj]; exact ht
    rw [run_builtin ho hc, args_one hx, ht']
    simp only [builtin, Sem.run_bind, hr, Result.andThen_ok, Sem.run_pure]
  unfold lenK at h
  split at h
  · rename_i x t hx ht
    split at h
    · rename_i p hp
      have hr := relC_of hI hp
      split at h
      · split at h
        · rename_i e he
          refine key hx ht ?_ rfl h
          have hr : a.eval x = .slice none 0 0 := hr
          simp [Builtin.len_, run_und (elemP_some he), hr, goInt]
        · cases h
      · rename_i s
        split at h
        · rename_i hu
          refine key hx ht ?_ rfl h
          have hr : a.eval x = .string s := hr
          simp [Builtin.len_, run_und hu, hr, goInt]
        · cases h
      · split at h
        · rename_i s e hs he
          refine key hx ht ?_ rfl h
          obtain ⟨A, cap, h1, _⟩ := slice_of hI hs hr
          simp [Builtin.len_, run_und (elemP_some he), h1, goInt]
        · cases h
    · cases h
  · cases h
theorem foldK_sound {f : Int → Int → Int} {g : Value → Value → Sem Value} (hg : ∀ k x y w, (g (.int k x) (.int k y)).run P w = .ok (.int k (f x y)) w) : ∀ (ps : List PC) (vs : List Value) (k : IntKind) (x : Int) (K : PC → Option R), ps.length = vs.length →
    (∀ (j : Nat) (p : PC) (v : Value), ps[j]? = some p → vs[j]? = some v → RelC w E ok st p v) → foldK f (.int k x) ps K = some r → ∃ z, K (.int k z) = some r ∧ (vs.foldlM g (.int k x)).run P w = .ok (.int k z) w
  | [], vs, k, x, K, hl, hr, h => by
    have : vs = [] := List.eq_nil_of_length_eq_zero (by simpa using hl.symm)
    subst this
    exact ⟨x, h, rfl⟩
  | p :: ps, [], k, x, K, hl, hr, h => by simp at hl
  | p :: ps, v :: vs, k, x, K, hl, hr, h => by
    unfold foldK at h
    split at h
    · rename_i h1 h2; cases h2
    · rename_i K _ _ _ k1 x1 k' y r' h1 h2
      injection h1 with h1 h1'
      subst h1; subst h1'
      injection h2 with h2 h3
      subst h2; subst h3
      split at h
      · rename_i hk
        subst hk
        have hv : v = .int k y := hr 0 _ _ rfl rfl
        subst hv
        obtain ⟨z, h4, h5⟩ := foldK_sound hg ps vs k (f x y) K (by simpa using hl) (fun j p v hp hv => hr (j + 1) p v hp hv) h
        refine ⟨z, h4, ?_⟩
        rw [List.foldlM_cons, Sem.run_bind, hg, Result.andThen_ok]
        exact h5
      · cases h
    · cases h
theorem relC_pc (hI : Inv X E ok st a w) (x : Operand) : RelC w E ok st (pcOf st x) (a.eval x) := by
  unfold pcOf
  split
  · rename_i p hp
    exact relC_of hI hp
  · trivial
theorem foldsK_sound {f : Int → Int → Int} {g : Value → Value → Sem Value} (hg : ∀ k x y w, (g (.int k x) (.int k y)).run P w = .ok (.int k (f x y)) w) {xs : List Operand} {K : PC → Option R} (hI : Inv X E ok st a w)
    (h : foldsK f (xs.map (pcOf st)) K = some r) : ∃ x rest k z, xs.map a.eval = x :: rest ∧ K (.int k z) = some r ∧ (rest.foldlM g x).run P w = .ok (.int k z) w := by
  unfold foldsK at h
  cases xs with
  | nil => cases h
  | cons x xs =>
    simp only [List.map_cons] at h
    split at h
    · rename_i k y r' hh
      injection hh with h1 h2
      subst h2
      have hx := relC_pc hI x
      rw [h1] at hx
      have hx : a.eval x = .int k y := hx
      obtain ⟨z, h4, h5⟩ := foldK_sound hg _ (xs.map a.eval) k y K (by simp) (fun j p v hp hv => by
        simp only [List.getElem?_map, Option.map_eq_some_iff] at hp hv
        obtain ⟨u, hu, rfl⟩ := hp
        obtain ⟨u', hu', rfl⟩ := hv
        rw [hu] at hu'; injection hu' with hu'; subst hu'
        exact relC_pc hI u) h
      exact ⟨_, _, k, z, rfl, h4, by rw [hx]; exact h5⟩
    · cases h
theorem s_max {c : Call} (hI : Inv X E ok st a w) (ho : o.op = .call c) (hc : c.callee = .builtin .max)
    (h : foldsK maxI (c.args.toList.map (pcOf st)) (fun q => K (.one q) st) = some r) : OpSound P X E ok o st a w K r := by
  obtain ⟨x, rest, k, z, h1, h2, h3⟩ := foldsK_sound (P := P) (g := Builtin.max2) (fun k x y w => rfl) hI h
  refine ⟨_, _, h2, goes_pure (v' := .int k z) hI ?_ rfl⟩
  rw [run_builtin ho hc]
  have e : (c.args.map a.eval).toList = x :: rest := by rw [← h1]; simp
  simp only [builtin, Sem.run_bind, Builtin.max_, e, h3, Result.andThen_ok, Sem.run_pure]
theorem s_min {c : Call} (hI : Inv X E ok st a w) (ho : o.op = .call c) (hc : c.callee = .builtin .min)
    (h : foldsK minI (c.args.toList.map (pcOf st)) (fun q => K (.one q) st) = some r) : OpSound P X E ok o st a w K r := by
  obtain ⟨x, rest, k, z, h1, h2, h3⟩ := foldsK_sound (P := P) (g := Builtin.min2) (fun k x y w => rfl) hI h
  refine ⟨_, _, h2, goes_pure (v' := .int k z) hI ?_ rfl⟩
  rw [run_builtin ho hc]
  have e : (c.args.map a.eval).toList = x :: rest := by rw [← h1]; simp
  simp only [builtin, Sem.run_bind, Builtin.min_, e, h3, Result.andThen_ok, Sem.run_pure]
end Go.Eng
end
section
set_option linter.unusedVariables false
set_option linter.unusedSimpArgs false
namespace Go.Eng
variable {R : Type} {P : Program} {X : Ctx} {E : Env} {ok : Nat → Prop} {st : St} {a : Act} {w : World} {r : R} {o : Oper} {K : PV → St → Option R}

/-- New blocks alone. -/
theorem Inv.grown (hI : Inv X E ok st a w) {w' : World} (hg : w.grownBy w' none) : Inv X E ok st a w' :=
  have ho : ∀ k, k < w.heap.size → w'.heap[k]? = w.heap[k]? := fun k hk => hg.block k hk (by simp)
  have hx : Ext w E ok st w' E ok st := ⟨fun b hb => ho b (hI.oklt b hb), fun _ h => h, fun b cs h => ⟨⟨cs, h⟩, rfl⟩, fun i A h => ⟨A, h, Nat.le_refl _, fun _ => ⟨rfl, rfl, rfl⟩⟩⟩
  { hI with
    tm := fun t p v hp hv => (hI.tm t p v hp hv).ext hx
    bx := fun b cs hb => (hI.bx b cs hb).ext (fun k hk => ho k (hI.foot_lt hb hk)) hx
    ar := fun i A hA => (hI.ar i A hA).ext (fun g o c e he => ho g (by have := hI.ar i A hA; rw [he] at this; exact this.lt))
    bxok := fun b cs k hb hk => by
      obtain ⟨k1, k2, k3⟩ := hI.bxok b cs k hb hk
      exact ⟨k1, k2, Nat.lt_of_lt_of_le k3 hg.size⟩
    oklt := fun b hb => Nat.lt_of_lt_of_le (hI.oklt b hb) hg.size
    size := Nat.le_trans hI.size hg.size
    frame := fun b hb hn => (ho b (Nat.lt_of_lt_of_le hb hI.size)).trans (hI.frame b hb hn)
    lent := fun g o n hg1 => by
      obtain ⟨h1, cur0, cur, e, h2, h3, h4⟩ := hI.lent g o n hg1
      exact ⟨h1, cur0, cur, e, h2, (ho g (Nat.lt_of_lt_of_le h1 hI.size)).trans h3, h4⟩
    os := hg.os.trans hI.os, tape := hg.tape.trans hI.tape, output := hg.output.trans hI.output }
def rowV (p : Place) (n : Nat) : Value :=
  match p with
  | none => .slice none 0 0
  | some (g, o, cap, _) => .slice (some ⟨g, o, none⟩) n cap
theorem run_append_room_at (w : World) (t tx ty e e0 : TypeId) (i : TypeInfo) (ht : P.underlying t = some (.slice e)) (hi : P.info? e = some i) (g sLen sCap : Nat) (cur : Array Value) (hg : w.heap[g]? = some (.cells cur e0 (0, 0)))
    (x : Value) (n : Nat) (news : List Value) (hs : Src P i.size tx x n news w) (hroom : sLen + n ≤ sCap) (hfit : sLen * i.size + news.length ≤ cur.size) :
    (Builtin.append_ #[t, tx] ty #[.slice (some ⟨g, 0, none⟩) sLen sCap, x]).run P w = .ok (.slice (some ⟨g, 0, none⟩) (sLen + n) sCap)
      (w.setRow g (cur.toList.take (sLen * i.size) ++ news ++ cur.toList.drop (sLen * i.size + news.length)).toArray) := by
  have hst := run_storeCells_at P g (sLen * i.size) e0 news 0 cur w hg (by simpa using hfit) hs.one
  simp only [Nat.add_zero] at hst
  rcases hs.kind with ⟨e', hk⟩ | hk <;> simp [Builtin.append_, run_underlying ht, run_underlying hk, sizeOf, typeInfo, hi, hs.len, hroom, hs.cells, Addr.add_lit, hst]
theorem run_app {w : World} {c : Cd} {l l2 : List c.ty} {p : Place} {t ty e : TypeId} {i : TypeInfo} {z x : Value} (v : Nat) (hA : ∃ u, ArOk w ⟨c, l, u, false, false⟩ p) (ht : P.underlying t = some (.slice e)) (hi : P.info? e = some i) (hz : i.zero = some z)
    (hsz : i.size = c.sz) (hzs : z.cells.size = c.sz) (hs : Src P c.sz t x l2.length (flatV c l2) w) (h63 : l.length + l2.length ≤ maxLen) (hbytes : (l.length + l2.length) * i.bytes ≤ 140737488355328) :
    ∃ p' w', (Builtin.append_ #[t, t] ty #[rowV p l.length, x]).run P w = .ok (rowV p' (l ++ l2).length) w' ∧ ArOk w' ⟨c, l ++ l2, v, false, false⟩ p' ∧ w.grownBy w' (p.map (·.1)) ∧
      (∀ g o cp e, p' = some (g, o, cp, e) → (∃ o c e, p = some (g, o, c, e)) ∨ g = w.heap.size) := by
  have hsmall : l.length + l2.length ≤ 9223372036854775807 := by simp only [maxLen] at h63; omega
  have hs' : Src P i.size t x l2.length (flatV c l2) w := by rw [hsz]; exact hs
  have grow : ∀ (base : Option Addr) (old : Nat), old < l.length + l2.length → (Builtin.firstCells i.size l.length (.slice base l.length old)).run P w.drew = .ok (flatV c l).toArray w.drew →
      ∃ p' w', (Builtin.append_ #[t, t] ty #[.slice base l.length old, x]).run P w = .ok (rowV p' (l ++ l2).length) w' ∧ ArOk w' ⟨c, l ++ l2, v, false, false⟩ p' ∧ w.grownBy w' (p.map (·.1)) ∧
      (∀ g o cp e, p' = some (g, o, cp, e) → (∃ o c e, p = some (g, o, c, e)) ∨ g = w.heap.size) := by
    intro base old ho hold
    have hge := grownCap_ge w (l.length + l2.length) old e
    have hcm : grownCap w (l.length + l2.length) old e ≤ maxLen := grownCap_le_maxLen w (l.length + l2.length) old e h63
    have hr := run_append_grow_src (P := P) w t t ty e i z ht hi hz base l.length old _ hold x l2.length (flatV c l2) hs' ho (by omega) (growslice_fits ho hbytes)
    refine ⟨some (w.heap.size, 0, grownCap w (l.length + l2.length) old e, e), _, hr.trans (by rw [rowV, List.length_append]), ⟨?_, hcm, _, heap_alloc_new w.drew _, ?_, fun _ => ⟨rfl, ?_⟩, fun j u hj => ?_⟩, ⟨rfl, rfl, rfl, by simp, fun k hk _ => heap_alloc_old w.drew _ k hk⟩, ?_⟩
    · simpa using hge
    · simp only [Array.size_append, List.size_toArray, size_zeroCells, hzs, List.length_append, flatV_length, ← Nat.add_mul, Nat.zero_add]
      exact Nat.mul_le_mul_right _ (by omega)
    · simp only [Array.size_append, List.size_toArray, size_zeroCells, hzs, List.length_append, flatV_length, ← Nat.add_mul]
      congr 1
      omega
    · have hlt := get_lt hj
      rw [Nat.zero_add, Array.getElem?_append_left (by simpa [← flatV_append] using hlt), List.getElem?_toArray, ← flatV_append]
      exact hj
    · intro g o cp e' he
      injection he with he
      simp only [Prod.mk.injEq] at he
      exact .inr he.1.symm
  obtain ⟨u, hA⟩ := hA
  cases p with
  | none =>
    have hl : l = [] := hA
    subst hl
    rcases Nat.eq_zero_or_pos l2.length with h0 | h0
    · have h2 : l2 = [] := List.eq_nil_of_length_eq_zero h0
      subst h2
      refine ⟨none, w, ?_, rfl, ⟨rfl, rfl, rfl, Nat.le_refl _, fun _ _ _ => rfl⟩, fun g o cp e he => by cases he⟩
      exact run_append_nothing w t t ty e i ht hi none 0 0 (Nat.le_refl _) x hs'
    · exact grow none 0 (by simpa using h0) (by simp [Builtin.firstCells, flatV])
  | some q =>
    obtain ⟨g, o, cap, e0⟩ := q
    obtain ⟨m1, m2, cur, m3, m4, m5, m6⟩ := hA
    obtain ⟨rfl, hcs⟩ := m5 rfl
    have m1 : l.length ≤ cap := m1
    have hcs : cur.size = cap * c.sz := hcs
    have m6 : ∀ j u, (flatV c l)[j]? = some u → cur[j]? = some u := fun j u hj => by have := m6 j u hj; rwa [Nat.zero_add] at this
    have htake : cur.toList.take (l.length * c.sz) = flatV c l := by
      apply List.ext_getElem?
      intro j
      rw [List.getElem?_take]
      split
      · rename_i hj
        have hj' : j < (flatV c l).length := by rw [flatV_length]; exact hj
        rw [List.getElem?_eq_getElem hj', Array.getElem?_toList]
        exact m6 j _ (List.getElem?_eq_getElem hj')
      · rw [List.getElem?_eq_none]
        rw [flatV_length]; omega
    by_cases hroom : l.length + l2.length ≤ cap
    · have hfit : l.length * c.sz + (flatV c l2).length ≤ cur.size := by rw [flatV_length, hcs, ← Nat.add_mul]; exact Nat.mul_le_mul_right _ hroom
      have hr := run_append_room_at (P := P) w t t ty e e0 i ht hi g l.length cap cur m3 x l2.length (flatV c l2) hs' hroom (by rw [hsz]; exact hfit)
      rw [hsz] at hr
      refine ⟨some (g, 0, cap, e0), _, hr.trans (by rw [rowV, List.length_append]), ⟨?_, m2, _, setRow_heap w g _ _ _ _ m3, ?_, fun _ => ⟨rfl, ?_⟩, fun j u hj => ?_⟩, ⟨rfl, rfl, rfl, by simp, fun k _ hk => setRow_other w g k _ (fun e => hk (by simp [e]))⟩, fun g1 o1 c1 e1 he => ?_⟩
      · simpa using hroom
      · simp only [List.size_toArray, List.length_append, List.length_take, List.length_drop, Array.length_toList]
        rw [hcs] at hfit ⊢
        show 0 + cap * c.sz ≤ _
        omega
      · simp only [List.size_toArray, List.length_append, List.length_take, List.length_drop, Array.length_toList]
        show _ = cap * c.sz
        omega
      · rw [Nat.zero_add, htake, List.getElem?_toArray, ← flatV_append, List.getElem?_append_left (get_lt hj)]
        exact hj
      · injection he with he
        simp only [Prod.mk.injEq] at he
        exact .inl ⟨0, cap, e0, by rw [he.1]⟩
    · refine grow (some ⟨g, 0, none⟩) cap (by omega) ?_
      exact run_firstCells_some w.drew i.size l.length ⟨g, 0, none⟩ l.length cap (flatV c l) (by rw [flatV_length, hsz]) (fun j u hj => by
        have e1 : w.drew.heap[g]? = some (.cells cur e0 (0, 0)) := m3
        rw [addr_add, cell_of e1, Nat.zero_add]
        exact m6 j u hj)
theorem s_append {c : Call} (hI : Inv X E ok st a w) {slot : Nat} (ho : o.op = .call c) (hc : c.callee = .builtin .append)
    (h : appK P slot st c.args.toList c.argTypes.toList K = some r) : OpSound P X E ok o st a w K r := by
  unfold appK at h
  split at h
  · rename_i s x t u hx ht
    split at h
    · rename_i htu
      subst htu
      have ht' : c.argTypes = #[t, t] := by rw [← Array.toList_inj]; exact ht
      split at h
      · rename_i e he
        split at h
        · rename_i cd hcd
          split at h
          · rename_i hcond
            simp only [Bool.and_eq_true, decide_eq_true_eq] at hcond
            obtain ⟨hzo, hby⟩ := hcond
            obtain ⟨i, z, hi, hz, hsz, hzc⟩ := zeroOk_some hzo
            have hbe : bytesP P e = i.bytes := by simp [bytesP, Program.bytesOf, hi]
            rw [hbe] at h hby
            have hzs : z.cells.size = cd.sz := by rw [← Array.length_toList, hzc, encV_length]
            have hund := elemP_some he
            have run : ∀ {v' w'}, (Builtin.append_ #[t, t] o.type #[a.eval s, a.eval x]).run P w = .ok v' w' → (execOp a.eval o).run P w = .ok (.value v') w' := fun hr => by
              rw [run_builtin ho hc, args_two hx, ht']
              simp only [builtin, Sem.run_bind, hr, Result.andThen_ok, Sem.run_pure]
            have small : ∀ n : Nat, n * i.bytes ≤ 140737488355328 → n ≤ maxLen := fun n hn => by
              have : n * 1 ≤ n * i.bytes := Nat.mul_le_mul_left _ hby
              simp only [maxLen]; omega
            split at h
            · rename_i q hq
              split at h
              · rename_i ys hys
                split at h
                · rename_i hyc
                  obtain ⟨yc, yl⟩ := ys
                  simp only at hyc
                  subst hyc
                  have hsrc : Src P yc.sz t (a.eval x) yl.length (flatV yc yl) w := by
                    obtain ⟨A, cap, h1, h2⟩ := slice_of hI hys (relC_of hI hq)
                    simp only at h1 h2
                    rw [h1]
                    by_cases hn : yl = []
                    · subst hn
                      cases A with
                      | none => exact Src.ofNil w hund cap
                      | some ad => exact Src.ofSlice w hund ad 0 cap [] (by simp) (by simp) (by simp)
                    · obtain ⟨g, of, rfl, cur, e', fr, h3, h4⟩ := h2 hn
                      exact Src.ofSlice w hund _ _ cap _ (flatV_length yc yl) (fun j u hj => by rw [addr_add, cell_of h3]; exact h4 j u hj) (flatV_one yc yl)
                  split at h
                  · rename_i hsn
                    split at h
                    · rename_i st1 hs1
                      obtain ⟨hn, rfl⟩ := newAr_some hs1
                      split at h
                      · rename_i hb
                        have hv : a.eval s = .slice none 0 0 := relC_of hI hsn
                        obtain ⟨p', w', h1, h2, h3, h4⟩ := run_app (P := P) (l := []) (l2 := yl) (p := none) (ty := o.type) 0 ⟨0, rfl⟩ hund hi hz hsz hzs hsrc (by simpa using small _ hb) (by simpa using hb)
                        have hi' := hI.grown h3
                        obtain ⟨i1, _⟩ := hi'.addAr hn h2 (by
                          cases p' with
                          | none => trivial
                          | some q =>
                            obtain ⟨g, o, c, e⟩ := q
                            rcases h4 g o c e rfl with ⟨o', c', e', he'⟩ | rfl
                            · cases he'
                            · exact FreeRow.new hI o c e)
                        rw [← show a.eval s = rowV none ([] : List yc.ty).length from hv] at h1
                        refine ⟨_, _, h, goes_run (run h1) ⟨_, _, i1, ?_⟩⟩
                        have := relC_own (w := w') (E := E) (ok := ok) (p := p') (l := yl) (get_lt hn)
                        revert this
                        cases p' <;> exact id
                      · cases h
                    · cases h
                  · rename_i j ver hsj
                    split at h
                    · rename_i A hA
                      split at h
                      · cases h
                      · rename_i hfl
                        simp only [Bool.or_eq_true, not_or, Bool.not_eq_true] at hfl
                        split at h
                        · rename_i hAc
                          split at h
                          · rename_i hb
                            obtain ⟨Ac, Al, Av, Af, At⟩ := A
                            simp only at hAc hfl hb
                            subst hAc
                            obtain ⟨rfl, rfl⟩ := hfl
                            obtain ⟨hA', hver⟩ := arr?_some hA
                            clear hA
                            simp only at hver
                            subst hver
                            have hrv := relC_of hI hsj
                            obtain ⟨A', k1, _, k2⟩ := hrv
                            rw [hA'] at k1; injection k1 with k1; injection k1 with k1; subst k1
                            have k3 : a.eval s = rowV (E.ar j) Al.length := by
                              have := k2 rfl
                              revert this
                              cases E.ar j <;> exact id
                            have k4 := hI.ar j _ hA'
                            obtain ⟨p', w', h1, h2, h3, h4⟩ := run_app (P := P) (l := Al) (l2 := yl) (p := E.ar j) (ty := o.type) (Av + 1) ⟨_, k4⟩ hund hi hz hsz hzs hsrc (small _ hb) hb
                            rw [← k3] at h1
                            have hi' := hI.growAr hA' rfl rfl h3 (fun k hk => by
                              cases hp : E.ar j with
                              | none => rw [hp] at hk; cases hk
                              | some q =>
                                obtain ⟨g, o, c, e⟩ := q
                                rw [hp] at hk
                                injection hk with hk
                                exact ⟨o, c, e, by rw [← hk]⟩) (v := Av + 1) (Nat.lt_succ_self _) h2 h4
                            refine ⟨_, _, h, goes_run (run h1) ⟨_, _, hi', ⟨_, List.getElem?_set_self (get_lt hA'), Nat.le_refl _, fun _ => ?_⟩⟩⟩
                            simp only [Env.setAr, if_true]
                            cases p' <;> rfl
                          · cases h
                        · cases h
                    · cases h
                  · cases h
                · cases h
              · cases h
            · cases h
          · cases h
        · cases h
      · cases h
    · cases h
  · cases h
end Go.Eng
end
section
set_option linter.unusedVariables false
set_option linter.unusedSimpArgs false
namespace Go.Eng
variable {R : Type} {P : Program} {X : Ctx} {E : Env} {ok : Nat → Prop} {st : St} {a : Act} {w : World} {r : R} {o : Oper} {K : PV → St → Option R}

theorem cellsOfParts_sound : ∀ {c : Cd} {n : Nat} {parts : List (Nat × Operand)} {l : List c.ty} {st st1 : St} {ok : Nat → Prop}, Inv X E ok st a w → cellsOfParts c st n parts = some (l, st1) →
    (∀ x, RelV w E ok st (st.op x) (a.eval x)) →
    ∃ ok', Inv X E ok' st1 a w ∧ Ext w E ok st w E ok' st1 ∧ ∃ vs : List Value, parts.map (fun x => (x.1, a.eval x.2)) = (vs.zipIdx n).map (fun x => (x.2, x.1)) ∧ (vs.flatMap fun v => v.cells.toList) = flatV c l ∧ vs.length = l.length ∧ ∀ v ∈ vs, v.cells.size = c.sz
  | c, n, [], l, st, st1, ok, hI, h, _ => by
    simp only [cellsOfParts, Option.some.injEq, Prod.mk.injEq] at h
    obtain ⟨rfl, rfl⟩ := h
    exact ⟨ok, hI, Ext.refl, [], rfl, rfl, rfl, by simp⟩
  | c, n, (i, x) :: parts, l, st, st1, ok, hI, h, _ => by
    unfold cellsOfParts at h
    split at h
    · rename_i hin
      subst hin
      split at h
      · rename_i pa hx
        have hv := hI.op x
        rw [hx] at hv
        split at h
        · rename_i q st2 hq
          obtain ⟨ok1, i1, x1, r1, r2, p1⟩ := frozenA_sound hI hq hv
          split at h
          · rename_i y hd
            have e1 := dec_enc c _ _ y hd
            rw [List.append_nil] at e1
            rw [e1] at r2
            have e2 := enc_vals c y _ r2
            split at h
            · rename_i l' st3 hl
              simp only [Option.some.injEq, Prod.mk.injEq] at h
              obtain ⟨rfl, rfl⟩ := h
              obtain ⟨ok2, i2, x2, vs, k1, k2, k3, k4⟩ := cellsOfParts_sound i1 hl (fun x => i1.op x)
              refine ⟨ok2, i2, x1.trans x2, a.eval x :: vs, ?_, ?_, by simp [k3], ?_⟩
              · simp only [List.map_cons, List.zipIdx_cons]
                rw [k1]
              · rw [List.flatMap_cons, k2, e2, flatV_cons]
              · intro v hv
                rcases List.mem_cons.1 hv with rfl | hv
                · rw [← Array.length_toList, e2, encV_length]
                · exact k4 v hv
            · cases h
          · cases h
        · cases h
      · cases h
    · cases h
theorem s_buildSlice {t : TypeId} {len : Nat} {parts : Array (Nat × Operand)} (hI : Inv X E ok st a w) {slot : Nat} (ho : o.op = .buildSlice t len parts)
    (h : (match elemP P t with
    | some e =>
      match cdOf P 8 e with
      | some c =>
        if parts.toList.length = len ∧ len * c.sz ≤ 16777216 ∧ zeroOk P e c = true ∧ 0 < len then
          match cellsOfParts c st 0 parts.toList with
          | some (l, st1) =>
            match st1.newAr (2 * slot) ⟨c, l, 0, false, false⟩ with
            | some st2 => K (.one (.own (2 * slot) 0)) st2
            | none => none
          | none => none
        else none
      | none => none
    | none => none) = some r) : OpSound P X E ok o st a w K r := by
  split at h
  · rename_i e he
    split at h
    · rename_i c hc
      split at h
      · rename_i hcond
        obtain ⟨hl, hsm, hzo, hp⟩ := hcond
        obtain ⟨i, z, hi, hz, hsz, hzc⟩ := zeroOk_some hzo
        split at h
        · rename_i l st1 hcp
          obtain ⟨ok1, i1, x1, vs, k1, k2, k3, k4⟩ := cellsOfParts_sound hI hcp (fun x => hI.op x)
          have hvl : vs.length = len := by
            have := congrArg List.length k1
            simp only [List.length_map, List.length_zipIdx] at this
            omega
          split at h
          · rename_i st2 hs
            obtain ⟨hn, rfl⟩ := newAr_some hs
            have hf := Great.fill_whole (sz_pos c) vs ((Array.range (len * c.sz)).map (z.cells[· % z.cells.size]!)) k4 (by simp [hvl])
            rw [← k1, k2] at hf
            rw [← hsz] at hf
            have hr := run_buildSlice (P := P) w t e len (parts.map fun x => (x.1, a.eval x.2)) (flatV c l).toArray i z (elemP_some he) hi hz (by rw [hsz]; omega) (by rw [hsz]; have := Nat.mul_pos hp (sz_pos c); omega) (by rw [Array.toList_map]; exact hf)
            obtain ⟨E', j1, j2⟩ := i1.newRow hn (c := c) (l := l) (cur := (flatV c l).toArray) (cap := len) e (by omega) (by have := Nat.le_mul_of_pos_right len (sz_pos c); simp only [maxLen]; omega)
              (by rw [List.size_toArray, flatV_length]; congr 1; omega) (fun j u hj => (List.getElem?_toArray ..).trans hj)
            rw [← k3, hvl] at j2
            have ho' : execOp a.eval o = (do pure (.value (← Instr.buildSlice t len (parts.map fun x => (x.1, a.eval x.2))))) := by
              unfold execOp
              rw [ho]
            have hr' := run_value ho' hr
            exact ⟨_, _, h, goes_run hr' ⟨E', ok1, j1, j2⟩⟩
          · cases h
        · cases h
      · cases h
    · cases h
  · cases h
theorem foldl_splice (off : Nat) : ∀ (us : List Value) (k : Nat) (cur : Array Value), off + k + us.length ≤ cur.size →
    ((us.zipIdx k).foldl (fun cs (x : Value × Nat) => cs.setIfInBounds (off + x.2) x.1) cur).toList = cur.toList.take (off + k) ++ us ++ cur.toList.drop (off + k + us.length)
  | [], k, cur, h => by simp
  | u :: us, k, cur, h => by
    rw [List.zipIdx_cons, List.foldl_cons, foldl_splice off us (k + 1) _ (by simp at h ⊢; omega)]
    simp only [List.length_cons] at h ⊢
    apply List.ext_getElem?
    intro j
    rw [show off + (k + 1) + us.length = off + k + (us.length + 1) by omega]
    simp only [Array.toList_setIfInBounds]
    rw [List.getElem?_append, List.getElem?_append, List.getElem?_append, List.getElem?_append]
    simp only [List.length_append, List.length_take, List.length_set, Array.length_toList, List.length_cons, List.getElem?_drop, List.getElem?_take, List.getElem?_set]
    rw [Nat.min_eq_left (by omega), Nat.min_eq_left (by omega)]
    by_cases h1 : j < off + k
    · have h2 : j < off + (k + 1) := by omega
      have h3 : ¬ off + k = j := by omega
      simp [h1, h2, h3, show j < off + (k + 1) + us.length by omega, show j < off + k + (us.length + 1) by omega]
    · by_cases h2 : j = off + k
      · subst h2
        simp [show off + k < off + (k + 1) by omega, show off + k < off + (k + 1) + us.length by omega, show off + k < cur.size by omega]
      · have h3 : ¬ j < off + (k + 1) := by omega
        have h4 : ¬ off + k = j := by omega
        by_cases h5 : j < off + (k + 1) + us.length
        · have h6 : j < off + k + (us.length + 1) := by omega
          simp only [h5, h6, h1, h3, if_true, if_false]
          obtain ⟨d, hd⟩ : ∃ d, j = off + (k + 1) + d := ⟨j - (off + (k + 1)), by omega⟩
          subst hd
          rw [show off + (k + 1) + d - (off + (k + 1)) = d by omega, show off + (k + 1) + d - (off + k) = d + 1 by omega, List.getElem?_cons_succ]
        · have h6 : ¬ j < off + k + (us.length + 1) := by omega
          have h7 : ¬ off + k = off + k + (us.length + 1) + (j - (off + (k + 1) + us.length)) := by omega
          simp only [h5, h6, if_false, h7]
          congr 1
          omega
theorem fill_sound {place : Nat → Option (Nat × Nat)} : ∀ {pl : List (Nat × Nat)} {ps : List (Nat × List PC)} {vs : List (Nat × Value)} {cells cs : List PC} {cur : Array Value},
    ps.length = vs.length → (∀ (j : Nat) (p : Nat × List PC) (v : Nat × Value), ps[j]? = some p → vs[j]? = some v → p.1 = v.1 ∧ RelCs w E ok st p.2 v.2.cells.toList) → RelCs w E ok st cells cur.toList →
    (∀ (i : Nat) x, pl[i]? = some x → place i = some x) → fillK pl cells ps = some cs → ∃ cur', Instr.fill place cur vs = some cur' ∧ RelCs w E ok st cs cur'.toList
  | pl, [], vs, cells, cs, cur, hl, hr, hc, hpl, h => by
    have : vs = [] := List.eq_nil_of_length_eq_zero (by simpa using hl.symm)
    subst this
    simp only [fillK, Option.some.injEq] at h
    subst h
    exact ⟨cur, rfl, hc⟩
  | pl, p :: ps, [], cells, cs, cur, hl, hr, hc, hpl, h => by simp at hl
  | pl, (i, d) :: ps, (i', v) :: vs, cells, cs, cur, hl, hr, hc, hpl, h => by
    obtain ⟨h1, h2⟩ := hr 0 _ _ rfl rfl
    simp only at h1 h2
    subst h1
    unfold fillK at h
    split at h
    · rename_i off size hp
      split at h
      · rename_i hb
        obtain ⟨hd, hle⟩ := hb
        have e1 : d.length = v.cells.size := by simpa using h2.1
        have e2 : cells.length = cur.size := by simpa using hc.1
        have hd : d.length = size := hd
        have hle : off + size ≤ cells.length := hle
        have hsp := foldl_splice off v.cells.toList 0 cur (by rw [Array.length_toList]; omega)
        have hr2 := relCs_splice (off := off) hc h2 (by omega)
        rw [Nat.add_zero] at hsp
        rw [← hsp] at hr2
        obtain ⟨cur', k1, k2⟩ := fill_sound (by simpa using hl) (fun j p v hp hv => hr (j + 1) p v hp hv) hr2 hpl h
        refine ⟨cur', ?_, k2⟩
        unfold Instr.fill
        simp only [hpl _ _ hp]
        rw [if_neg (by simp; omega), ← k1]
        congr 1
        rw [← Array.foldl_toList, Array.toList_zipIdx]
      · cases h
    · cases h
theorem partsOf_sound : ∀ {parts : List (Nat × Operand)} {ps : List (Nat × List PC)} {st st1 : St} {ok : Nat → Prop}, Inv X E ok st a w → partsOf st parts = some (ps, st1) →
    ∃ ok', Inv X E ok' st1 a w ∧ Ext w E ok st w E ok' st1 ∧ ps.length = parts.length ∧ ∀ (j : Nat) (p : Nat × List PC) (v : Nat × Operand), ps[j]? = some p → parts[j]? = some v → p.1 = v.1 ∧ RelCs w E ok' st1 p.2 (a.eval v.2).cells.toList
  | [], ps, st, st1, ok, hI, h => by
    simp only [partsOf, Option.some.injEq, Prod.mk.injEq] at h
    obtain ⟨rfl, rfl⟩ := h
    exact ⟨ok, hI, Ext.refl, rfl, fun j p v hp hv => by simp at hp⟩
  | (i, x) :: parts, ps, st, st1, ok, hI, h => by
    unfold partsOf at h
    split at h
    · rename_i pa hx
      have hv := hI.op x
      rw [hx] at hv
      split at h
      · rename_i q st2 hq
        obtain ⟨ok1, i1, x1, r1, r2, p1⟩ := frozenA_sound hI hq hv
        split at h
        · rename_i ps' st3 hl
          simp only [Option.some.injEq, Prod.mk.injEq] at h
          obtain ⟨rfl, rfl⟩ := h
          obtain ⟨ok2, i2, x2, k1, k2⟩ := partsOf_sound i1 hl
          refine ⟨ok2, i2, x1.trans x2, by simp [k1], fun j p v hp hv => ?_⟩
          cases j with
          | zero =>
            simp only [List.getElem?_cons_zero, Option.some.injEq] at hp hv
            subst hp; subst hv
            exact ⟨rfl, r2.ext x2⟩
          | succ j => exact k2 j p v hp hv
        · cases h
      · cases h
    · cases h
theorem placesP_eq : ∀ {fs : List Field} {pl : List (Nat × Nat)}, placesP P fs = some pl → fs.mapM (fun f => (P.info? f.type).map fun i => (f.offset, i.size)) = some pl
  | [], pl, h => by simpa [placesP] using h
  | f :: fs, pl, h => by
    unfold placesP at h
    split at h
    · rename_i n l hn hl
      injection h with h; subst h
      have := placesP_eq hl
      unfold sizeP at hn
      cases hi : P.info? f.type with
      | none => rw [hi] at hn; cases hn
      | some i =>
        rw [hi] at hn
        injection hn with hn
        subst hn
        simp [List.mapM_cons, hi, this]
    · cases h
theorem s_build {t : TypeId} {parts : Array (Nat × Operand)} (hI : Inv X E ok st a w) (ho : o.op = .build t parts)
    (h : (match P.underlying t, P.info? t with
    | some (.struct fs), some i =>
      match i.zero, placesP P fs.toList with
      | some z, some pl =>
        match partsOf st parts.toList with
        | some (ps, st1) =>
          match fillK pl (z.cells.toList.map constC) ps with
          | some cs => K (.a (.agg cs)) st1
          | none => none
        | none => none
      | _, _ => none
    | some (.array n e), some i =>
      match i.zero, sizeP P e with
      | some z, some k =>
        match partsOf st parts.toList with
        | some (ps, st1) =>
          match fillK ((List.range n).map fun j => (j * k, k)) (z.cells.toList.map constC) ps with
          | some cs => K (.a (.agg cs)) st1
          | none => none
        | none => none
      | _, _ => none
    | _, _ => none) = some r) : OpSound P X E ok o st a w K r := by
  split at h
  · rename_i fs i hu hi
    split at h
    · rename_i z pl hz hpl
      split at h
      · rename_i ps st1 hps
        split at h
        · rename_i cs hcs
          obtain ⟨ok1, i1, x1, k1, k2⟩ := partsOf_sound hI hps
          have hr0 : RelCs w E ok1 st1 (z.cells.toList.map constC) z.cells.toList := by
            refine ⟨by simp, fun j p v hp hv => ?_⟩
            simp only [List.getElem?_map, hv, Option.map_some, Option.some.injEq] at hp
            subst hp
            exact relC_const v
          obtain ⟨cur', f1, f2⟩ := fill_sound (vs := (parts.map fun x => (x.1, a.eval x.2)).toList) (by simp [k1]) (fun j p v hp hv => by
            simp only [Array.toList_map, List.getElem?_map, Option.map_eq_some_iff] at hv
            obtain ⟨u, hu, rfl⟩ := hv
            exact k2 j p u hp hu) hr0 (place := (pl.toArray[·]?)) (fun i x h => by simpa using h) hcs
          have hb : P.built t (parts.map fun x => (x.1, a.eval x.2)).toList = some cur' := by
            unfold Program.built
            simp only [hi, hu, hz, placesP_eq hpl]
            exact f1
          exact ⟨_, _, h, goes_run (run_value (s := Instr.build t (parts.map fun x => (x.1, a.eval x.2))) (by simp only [execOp, ho]) (run_build w t _ _ hb)) ⟨E, ok1, i1, cur'.toList, by simp, f2⟩⟩
        · cases h
      · cases h
    · cases h
  · rename_i n e i hu hi
    split at h
    · rename_i z k hz hk
      split at h
      · rename_i ps st1 hps
        split at h
        · rename_i cs hcs
          obtain ⟨ok1, i1, x1, k1, k2⟩ := partsOf_sound hI hps
          have hr0 : RelCs w E ok1 st1 (z.cells.toList.map constC) z.cells.toList := by
            refine ⟨by simp, fun j p v hp hv => ?_⟩
            simp only [List.getElem?_map, hv, Option.map_some, Option.some.injEq] at hp
            subst hp
            exact relC_const v
          obtain ⟨ie, hie, hsz⟩ : ∃ ie, P.info? e = some ie ∧ ie.size = k := by
            unfold sizeP at hk
            cases hq : P.info? e with
            | none => rw [hq] at hk; cases hk
            | some ie => rw [hq] at hk; injection hk with hk; exact ⟨ie, rfl, hk⟩
          obtain ⟨cur', f1, f2⟩ := fill_sound (vs := (parts.map fun x => (x.1, a.eval x.2)).toList) (by simp [k1]) (fun j p v hp hv => by
            simp only [Array.toList_map, List.getElem?_map, Option.map_eq_some_iff] at hv
            obtain ⟨u, hu, rfl⟩ := hv
            exact k2 j p u hp hu) hr0 (place := fun i => some (i * ie.size, ie.size)) (fun i x h => by
              simp only [List.getElem?_map, Option.map_eq_some_iff] at h
              obtain ⟨j, h1, rfl⟩ := h
              rw [List.getElem?_range] at h1
              · injection h1 with h1; subst h1; rw [hsz]
              · have := get_lt h1; simpa using this) hcs
          have hb : P.built t (parts.map fun x => (x.1, a.eval x.2)).toList = some cur' := by
            unfold Program.built
            simp only [hi, hu, hz, hie]
            exact f1
          exact ⟨_, _, h, goes_run (run_value (s := Instr.build t (parts.map fun x => (x.1, a.eval x.2))) (by simp only [execOp, ho]) (run_build w t _ _ hb)) ⟨E, ok1, i1, cur'.toList, by simp, f2⟩⟩
        · cases h
      · cases h
    · cases h
  · cases h
theorem bytesS_eq : ∀ (l : List Int) (s : ByteArray), l.foldl (fun r n => r.push (UInt8.ofNat n.toNat)) s = s ++ bytesS l
  | [], s => by
    apply ByteArray.ext
    simp [bytesS]
  | x :: l, s => by
    rw [List.foldl_cons, bytesS_eq l]
    apply ByteArray.ext
    apply Array.ext'
    simp [bytesS, ByteArray.push, ByteArray.data_append]
theorem flatV_int (k : IntKind) : ∀ l : List Int, flatV (.int k) l = l.map (Value.int k)
  | [] => rfl
  | x :: l => by rw [flatV_cons, flatV_int k l]; rfl
theorem s_convert {s t : TypeId} {x : Operand} (hI : Inv X E ok st a w) (ho : o.op = .convert s t x)
    (h : (match P.underlying s, P.underlying t, st.op x with
    | some (.int _), some (.int k), .a (.c (.int _ n)) => K (.one (.int k (k.wrap n))) st
    | some .string, some .string, .a (.c (.str s)) => K (.one (.str s)) st
    | some (.slice e), some .string, .a (.c p) =>
      if isU8 P e then
        match p with
        | .nil => K (.one (.str ⟨#[]⟩)) st
        | p =>
          match st.sl? p with
          | some s =>
            match slDec (.int .u8) s with
            | some l => K (.one (.str (bytesS l))) st
            | none => none
          | none => none
      else none
    | _, _, _ => none) = some r) : OpSound P X E ok o st a w K r := by
  split at h
  · rename_i k0 k k1 n h1 h2 h3
    have hx := relC_of hI h3
    refine ⟨_, _, h, goes_pure hI (v' := .int k (k.wrap n)) (run_value (s := convert s t (a.eval x)) (by simp only [execOp, ho]) ?_) rfl⟩
    rw [show a.eval x = _ from hx]
    simp [convert, run_und h1, run_und h2, Conv.intToInt]
  · rename_i z h1 h2 h3
    have hx := relC_of hI h3
    refine ⟨_, _, h, goes_pure hI (v' := .string z) (run_value (s := convert s t (a.eval x)) (by simp only [execOp, ho]) ?_) rfl⟩
    rw [show a.eval x = _ from hx]
    simp [convert, run_und h1, run_und h2]
  · rename_i e p h1 h2 h3
    have hx := relC_of hI h3
    split at h
    · rename_i he
      have he : P.underlying e = some (.int .u8) := by
        unfold isU8 at he
        split at he
        · assumption
        · cases he
      split at h
      · refine ⟨_, _, h, goes_pure hI (v' := .string ⟨#[]⟩) (run_value (s := convert s t (a.eval x)) (by simp only [execOp, ho]) ?_) rfl⟩
        rw [show a.eval x = _ from hx]
        exact run_convert_bytes_nil w s e h1 he 0 0 t h2
      · split at h
        · rename_i sl hs
          split at h
          · rename_i l hl
            obtain ⟨A, cap, e1, e2⟩ := slice_of hI hs hx
            obtain ⟨c, l0⟩ := sl
            unfold slDec at hl
            split at hl
            · rename_i hc
              have hc : c = .int .u8 := hc
              subst hc
              injection hl with hl
              have hl : l0 = l := hl
              subst hl
              refine ⟨_, _, h, goes_pure hI (v' := .string (bytesS l0)) (run_value (s := convert s t (a.eval x)) (by simp only [execOp, ho]) ?_) rfl⟩
              rw [e1]
              have e4 : bytesS l0 = l0.foldl (fun r n => r.push (UInt8.ofNat n.toNat)) ByteArray.empty := by
                rw [bytesS_eq]
                simp
              rw [e4]
              by_cases hn : l0 = []
              · subst hn
                cases A with
                | none => exact run_convert_bytes_nil w s e h1 he _ _ t h2
                | some A =>
                  rw [run_convert_bytes_string w s t e (some A) _ cap h1 he h2]
                  exact run_bytesToString w A 0 cap [] (by simpa using run_loadCells_list (P := P) w A [] (fun j v hj => by simp at hj))
              · obtain ⟨g, o', rfl, cur, e', fr, k1, k2⟩ := e2 hn
                rw [run_convert_bytes_string w s t e _ _ cap h1 he h2]
                refine run_bytesToString w _ _ cap l0 ?_
                have := run_loadCells_list (P := P) w ⟨g, o', none⟩ (l0.map (Value.int .u8)) (fun j v hj => by
                  have hadd : (⟨g, o', none⟩ : Addr).add j = ⟨g, o' + j, none⟩ := by unfold Addr.add; split <;> simp_all
                  rw [hadd]
                  have : (flatV (.int .u8) l0)[j]? = some v := by rw [flatV_int]; exact hj
                  have := k2 j v this
                  simp [World.cell?, k1, this])
                simpa using this
            · cases hl
          · cases h
        · cases h
    · cases h
  · cases h
/-- Block r of the heap becomes o. -/
def putO (w : World) (r : Nat) (o : Obj) : World := { w with heap := w.heap.setIfInBounds r o }
theorem putO_same {r : Nat} {o : Obj} (h : r < w.heap.size) : (putO w r o).heap[r]? = some o := by simp [putO, h]
theorem putO_other {r k : Nat} {o : Obj} (h : k ≠ r) : (putO w r o).heap[k]? = w.heap[k]? := by simp [putO, Array.getElem?_setIfInBounds_ne (Ne.symm h)]
theorem putO_size {r : Nat} {o : Obj} : (putO w r o).heap.size = w.heap.size := by simp [putO]
theorem s_range {t : TypeId} {x : Operand} (hI : Inv X E ok st a w) {slot : Nat} (ho : o.op = .range t x)
    (h : (match P.underlying t, st.op x with
    | some .string, .a (.c (.str s)) =>
      match st.newBx slot [.objc (.iter s 0)] with
      | some st1 => K (.one (.box slot 0)) st1
      | none => none
    | _, _ => none) = some r) : OpSound P X E ok o st a w K r := by
  split at h
  · rename_i s hu hx
    have hr : a.eval x = .string s := relC_of hI hx
    split at h
    · rename_i st1 hs
      obtain ⟨hn, rfl⟩ := newBx_some hs
      obtain ⟨h1, h2⟩ := hI.newOb hn (o := .iter s 0) (obj := .stringIter s 0) ⟨rfl, heap_alloc_new w _⟩
      refine ⟨_, _, h, goes_run (run_value (s := Instr.range t (a.eval x)) (by simp only [execOp, ho]) ?_) ⟨_, _, h1, h2⟩⟩
      rw [hr]
      simp [Instr.range, run_und hu]
    · cases h
  · cases h
theorem s_next {x : Operand} (hI : Inv X E ok st a w) (ho : o.op = .next x true)
    (h : (match st.op x with
    | .a (.c (.box b 0)) =>
      match st.ob? b with
      | some (.iter s pos) =>
        if pos < s.size then K (.tup [.c (.bool true), .c (.int .i64 pos), .c (.int .i32 (Utf8.decode s pos).1)]) (st.setBx b [.objc (.iter s (pos + (Utf8.decode s pos).2))])
        else K (.tup [.c (.bool false)]) st
      | _ => none
    | _ => none) = some r) : OpSound P X E ok o st a w K r := by
  split at h
  · rename_i b hx
    have hr : RelC w E ok st (.box b 0) (a.eval x) := relC_of hI hx
    have hr : a.eval x = .pointer (some ⟨E.bx b, 0, none⟩) := hr.2
    split at h
    · rename_i s pos hob
      have hb := ob?_some hob
      obtain ⟨hf, hh⟩ : ObAt w ok (E.bx b) (E.fp b) (.iter s pos) := hI.bx b _ hb
      have hlt := hI.bx_lt hb
      split at h
      · rename_i hp
        obtain ⟨h1, h2⟩ := hI.turnBx (cs' := [.objc (.iter s (pos + (Utf8.decode s pos).2))]) hb (w' := putO w (E.bx b) (.stringIter s (pos + (Utf8.decode s pos).2))) (fs' := []) (ok' := ok) (by rw [putO_size]; exact Nat.le_refl _) rfl rfl rfl
          (fun k _ hf => putO_other (fun e => hf (.inl e))) (by simp) (hI.bxok b _ _ hb (.inl rfl)).1 (fun _ h => h) (fun _ h => .inl h)
          (fun _ => ⟨rfl, putO_same hlt⟩)
        rw [Env.setBx_same hf] at h1
        refine ⟨_, _, h, goes_run (v' := .tuple #[.bool true, .int .i64 pos, .int .i32 (Utf8.decode s pos).1]) (run_value (s := Instr.next (a.eval x) true o.type) (by simp only [execOp, ho]) ?_) ⟨_, _, h1, ⟨[.bool true, .int .i64 pos, .int .i32 (Utf8.decode s pos).1], rfl, rfl, fun j y v hy hv => ?_⟩⟩⟩
        · rw [hr]
          simp only [Instr.next, getObj, setObj, Sem.run_bind, Sem.run, hh, Result.andThen, hp, if_true]
          simp [goInt, Sem.run, hh, putO, setObj]
        · match j with
          | 0 => simp only [List.getElem?_cons_zero, Option.some.injEq] at hy hv; subst hy; subst hv; rfl
          | 1 => simp only [List.getElem?_cons_succ, List.getElem?_cons_zero, Option.some.injEq] at hy hv; subst hy; subst hv; rfl
          | 2 => simp only [List.getElem?_cons_succ, List.getElem?_cons_zero, Option.some.injEq] at hy hv; subst hy; subst hv; rfl
          | j + 3 => simp at hy
      · rename_i hp
        refine ⟨_, _, h, goes_pure hI (v' := .tuple #[.bool false]) (run_value (s := Instr.next (a.eval x) true o.type) (by simp only [execOp, ho]) ?_) ⟨[.bool false], rfl, rfl, fun j y v hy hv => ?_⟩⟩
        · rw [hr]
          simp [Instr.next, getObj, Sem.run, hh, hp]
        · match j with
          | 0 => simp only [List.getElem?_cons_zero, Option.some.injEq] at hy hv; subst hy; subst hv; rfl
          | j + 1 => simp at hy
    · cases h
  · cases h
theorem zeroIsN_eq (c : Cd) : ∀ (n : Nat) (vs : List Value), isNilL (zeroIsN c n vs) = true → vs = flatV c (List.replicate n c.dflt)
  | 0, vs, h => by
    cases vs with
    | nil => rfl
    | cons _ _ => cases h
  | n + 1, vs, h => by
    unfold zeroIsN at h
    split at h
    · rename_i r hr
      rw [zeroIs_eq c vs r hr, zeroIsN_eq c n r h, List.replicate_succ, flatV_cons]
    · cases h
theorem arrC_some {t : TypeId} {n : Nat} {c : Cd} (h : arrC P t = some (n, c)) : 0 < n := by
  unfold arrC at h
  split at h
  · split at h
    · rename_i hn
      split at h
      · injection h with h; injection h with h1 h2; omega
      · cases h
    · cases h
  · cases h
theorem s_alloc {t : TypeId} (hI : Inv X E ok st a w) {slot : Nat} (ho : o.op = .alloc t)
    (h : (match P.info? t with
    | some i =>
      match i.zero with
      | some z =>
        match arrC P t with
        | some (n, c) =>
          if isNilL (zeroIsN c n z.cells.toList) && decide (n * c.sz ≤ 16777216) then
            match st.newAr (2 * slot) ⟨c, List.replicate n c.dflt, 0, false, false⟩ with
            | some st1 => K (.one (.arr (2 * slot) 0 0 0)) st1
            | none => none
          else none
        | none =>
        match bldP P t with
        | some e =>
          if isFresh z.cells.toList && e != t then
            match st.newBx slot [.objc (.bld t e ⟨#[]⟩)] with
            | some st1 => K (.one (.box slot 0)) st1
            | none => none
          else none
        | none =>
        if (z.cells.toList.map constC).all known then
          match st.newBx slot (z.cells.toList.map constC) with
          | some st1 => K (.one (.box slot 0)) st1
          | none => none
        else none
      | none => none
    | none => none) = some r) : OpSound P X E ok o st a w K r := by
  split at h
  · rename_i i hi
    split at h
    · rename_i z hz
      have hrun : (Instr.alloc t true (.tuple #[])).run P w = .ok (.pointer (some ⟨w.heap.size, 0, none⟩)) (w.alloc (.cells z.cells t)) := by
        simp [Instr.alloc, run_zero hi hz, newVar, newRow]
      split at h
      · rename_i n c hc
        have hn0 := arrC_some hc
        split at h
        · rename_i hcond
          simp only [Bool.and_eq_true, decide_eq_true_eq] at hcond
          have hzc := zeroIsN_eq c n _ hcond.1
          split at h
          · rename_i st1 hs
            obtain ⟨hn, rfl⟩ := newAr_some hs
            have hsz := sz_pos c
            have hnn : n ≤ n * c.sz := Nat.le_mul_of_pos_right n hsz
            obtain ⟨E', h1, h2⟩ := hI.newRow hn (c := c) (l := List.replicate n c.dflt) (cur := z.cells) (cap := n) t (by simp) (by simp only [maxLen]; omega)
              (by rw [← Array.length_toList, hzc, flatV_length, List.length_replicate]) (fun j u hj => by rw [← hzc] at hj; simpa using hj)
            refine ⟨_, _, h, goes_run (run_value (s := Instr.alloc t true (.tuple #[])) (by simp only [execOp, ho]) hrun) ⟨E', ok, h1, ?_⟩⟩
            obtain ⟨A, k1, k2, k3⟩ := h2
            refine ⟨A, k1, k2, fun hv => ⟨?_, ?_⟩⟩
            · have : some (some (⟨c, List.replicate n c.dflt, 0, false, false⟩ : AR)) = some (some A) := by
                rw [← k1]
                simp only [St.setAr]
                rw [List.getElem?_set_self (get_lt hn)]
              injection this with this; injection this with this
              rw [← this]
              simpa using hn0
            have k3 := k3 hv
            cases hE : E'.ar (2 * slot) with
            | none => rw [hE] at k3; simp at k3
            | some q =>
              obtain ⟨g, o', cp, e'⟩ := q
              rw [hE] at k3
              simp only [Value.slice.injEq, Option.some.injEq, Addr.mk.injEq, and_true] at k3
              obtain ⟨⟨rfl, rfl⟩, _⟩ := k3
              exact ⟨_, _, _, _, rfl, by simp⟩
          · cases h
        · cases h
      · split at h
        · rename_i e he
          split at h
          · rename_i hcond
            simp only [Bool.and_eq_true, bne_iff_ne, ne_eq] at hcond
            obtain ⟨hf, hne⟩ := hcond
            split at h
            · rename_i st1 hs
              obtain ⟨hn, rfl⟩ := newBx_some hs
              have hzc : z.cells = #[.pointer none, .slice none 0 0] := by
                unfold isFresh at hf
                split at hf
                · rename_i hl
                  rw [← Array.toList_inj]; exact hl
                · cases hf
              rw [hzc] at hrun
              obtain ⟨h1, h2⟩ := hI.newOb hn (o := .bld t e ⟨#[]⟩) (obj := .cells #[.pointer none, .slice none 0 0] t)
                ⟨fun hh => hne hh.symm, .pointer none, .slice none 0 0, .inl rfl, heap_alloc_new w _, by simp, World.ownsRowF_nil _ _ _ _, by simp [Value.ownBlock]⟩
              exact ⟨_, _, h, goes_run (run_value (s := Instr.alloc t true (.tuple #[])) (by simp only [execOp, ho]) hrun) ⟨_, _, h1, h2⟩⟩
            · cases h
          · cases h
        · split at h
          · split at h
            · rename_i st1 hs
              obtain ⟨hn, rfl⟩ := newBx_some hs
              have hr : RelCs w E ok st (z.cells.toList.map constC) z.cells.toList := by
                refine ⟨by simp, fun j p v hp hv => ?_⟩
                simp only [List.getElem?_map, hv, Option.map_some, Option.some.injEq] at hp
                subst hp
                exact relC_const v
              obtain ⟨h1, h2⟩ := hI.newBx hn hr t
              exact ⟨_, _, h, goes_run (run_value (s := Instr.alloc t true (.tuple #[])) (by simp only [execOp, ho]) hrun) ⟨_, _, h1, h2⟩⟩
            · cases h
          · cases h
    · cases h
  · cases h
end Go.Eng
end
section
set_option linter.unusedVariables false
set_option linter.unusedSimpArgs false
namespace Go.Eng
variable {R : Type} {P : Program} {X : Ctx} {E : Env} {ok : Nat → Prop} {st : St} {a : Act} {w : World} {r : R} {o : Oper} {K : PV → St → Option R}

/-- Some rows hold something else; new blocks. -/
theorem Inv.redo (hI : Inv X E ok st a w) {w' : World} {st' : St} (T : Nat → Prop) (htm : st'.tm = st.tm) (hbx : st'.bx = st.bx) (hlen : st'.ar.length = st.ar.length)
    (hsz : w.heap.size ≤ w'.heap.size) (hos : w'.os = w.os) (htape : w'.tape = w.tape) (hout : w'.output = w.output)
    (hkeep : ∀ b, b < w.heap.size → (∀ i A o c e, T i → st.ar[i]? = some (some A) → E.ar i ≠ some (b, o, c, e)) → w'.heap[b]? = w.heap[b]?)
    (hne : ∀ i, ¬ T i → st'.ar[i]? = st.ar[i]?)
    (ht : ∀ (i : Nat) (A : AR), T i → st.ar[i]? = some (some A) → A.fz = false ∧ ∃ l', st'.ar[i]? = some (some { A with l := l' }) ∧ l'.length = A.l.length ∧ ∀ g o cp e, E.ar i = some (g, o, cp, e) →
      ∃ cur cur', w.heap[g]? = some (.cells cur e (0, 0)) ∧ w'.heap[g]? = some (.cells cur' e (0, 0)) ∧ cur'.size = cur.size ∧ (∀ j, (j < o ∨ o + A.l.length * A.c.sz ≤ j) → cur'[j]? = cur[j]?) ∧ ∀ j u, (flatV A.c l')[j]? = some u → cur'[o + j]? = some u)
    (hsome : ∀ i, T i → ∃ A, st.ar[i]? = some (some A)) :
    Inv X E ok st' a w' ∧ Ext w E ok st w' E ok st' := by
  have keepOk : ∀ b, ok b → w'.heap[b]? = w.heap[b]? := fun b hb => hkeep b (hI.oklt b hb) (fun i A o c e hT hA he => by
    have := (hI.arok i A b o c e hA he).1 hb
    rw [(ht i A hT hA).1] at this; cases this)
  have keepBx : ∀ b cs k, st.bx[b]? = some (some cs) → E.foot b k → w'.heap[k]? = w.heap[k]? := fun b cs k hb hk => hkeep _ (hI.foot_lt hb hk) (fun i A o c e hT hA he => hI.arbx i A b cs _ o c e hA hb he hk)
  have harlt : ∀ j B g o c e, st.ar[j]? = some (some B) → E.ar j = some (g, o, c, e) → g < w.heap.size := fun j B g o c e hB he => by
    have := hI.ar j B hB
    rw [he] at this
    exact this.lt
  have old : ∀ (j : Nat) (B : AR), st'.ar[j]? = some (some B) → ∃ B' : AR, st.ar[j]? = some (some B') ∧ B'.fz = B.fz ∧ B'.lt = B.lt ∧ B'.l.length * B'.c.sz = B.l.length * B.c.sz := fun j B h => by
    by_cases hT : T j
    · obtain ⟨A, hA⟩ := hsome j hT
      obtain ⟨h1, l', h2, h3, _⟩ := ht j A hT hA
      rw [h2] at h; injection h with h; injection h with h; subst h
      exact ⟨A, hA, rfl, rfl, by simp [h3]⟩
    · exact ⟨B, (hne j hT) ▸ h, rfl, rfl, rfl⟩
  have hx : Ext w E ok st w' E ok st' := by
    refine ⟨keepOk, fun _ h => h, fun b cs h => ⟨⟨cs, by rw [hbx]; exact h⟩, rfl⟩, fun j B h => ?_⟩
    by_cases hT : T j
    · obtain ⟨h1, l', h2, h3, _⟩ := ht j B hT h
      exact ⟨_, h2, Nat.le_refl _, fun _ => ⟨rfl, h3, rfl⟩⟩
    · exact ⟨B, (hne j hT).trans h, Nat.le_refl _, fun _ => ⟨rfl, rfl, rfl⟩⟩
  refine ⟨{ hI with
    len := by rw [htm]; exact hI.len
    tm := fun t p v hp hv => (hI.tm t p v (htm ▸ hp) hv).ext hx
    bx := fun b cs hb => ?_
    ar := fun j B hB => ?_
    arlen := by rw [hlen, hbx]; exact hI.arlen
    bxne := fun b b' cs cs' k h h' he he' => hI.bxne b b' cs cs' k (hbx ▸ h) (hbx ▸ h') he he'
    bxok := fun b cs k h hk => by
      obtain ⟨k1, k2, k3⟩ := hI.bxok b cs k (hbx ▸ h) hk
      exact ⟨k1, k2, Nat.lt_of_lt_of_le k3 hsz⟩
    arne := fun j j' B B' g1 o1 c1 e1 g2 o2 c2 e2 h h' hg1 hg2 hgg => ?_
    arbx := fun j B b cs g1 o1 c1 e1 h hb hg1 => ?_
    arok := fun j B g1 o1 c1 e1 h hg1 => ?_
    arnew := fun j B g1 o1 c1 e1 h hg1 => ?_
    oklt := fun k hk => Nat.lt_of_lt_of_le (hI.oklt k hk) hsz
    size := Nat.le_trans hI.size hsz
    frame := fun k hk hn => ?_
    lent := fun g1 o1 n1 hg1 => ?_
    lentat := fun j s q hj => ?_
    os := hos.trans hI.os, tape := htape.trans hI.tape, output := hout.trans hI.output }, hx⟩
  · rw [hbx] at hb
    exact (hI.bx b cs hb).ext (fun k hk => keepBx b cs k hb hk) hx
  · by_cases hT : T j
    · obtain ⟨A, hA⟩ := hsome j hT
      obtain ⟨h1, l', h2, h3, h4⟩ := ht j A hT hA
      rw [h2] at hB; injection hB with hB; injection hB with hB; subst hB
      have h0 := hI.ar j A hA
      cases he : E.ar j with
      | none =>
        rw [he] at h0
        have h0 : A.l = [] := h0
        rw [h0] at h3
        exact List.eq_nil_of_length_eq_zero h3
      | some q =>
        obtain ⟨g, o, cp, e⟩ := q
        rw [he] at h0
        obtain ⟨m1, m2, cur, m3, m4, m5, m6⟩ := h0
        obtain ⟨cur1, cur', k1, k2, k3, k4, k5⟩ := h4 g o cp e he
        rw [m3] at k1; injection k1 with k1; injection k1 with k1; subst k1
        exact ⟨by simpa [h3] using m1, m2, cur', k2, by rw [k3]; exact m4, fun hh => ⟨(m5 hh).1, by rw [k3]; exact (m5 hh).2⟩, k5⟩
    · rw [hne j hT] at hB
      exact (hI.ar j B hB).ext (fun g1 o1 c1 e1 hg1 => hkeep g1 (harlt j B g1 o1 c1 e1 hB hg1) (fun i A o c e hTi hA he => hT (by
        have := hI.arne i j A B g1 o c e g1 o1 c1 e1 hA hB he hg1 rfl
        exact this ▸ hTi)))
  · obtain ⟨B1, k1, _⟩ := old j B h
    obtain ⟨B2, k2, _⟩ := old j' B' h'
    exact hI.arne j j' B1 B2 g1 o1 c1 e1 g2 o2 c2 e2 k1 k2 hg1 hg2 hgg
  · obtain ⟨B1, k1, _⟩ := old j B h
    exact hI.arbx j B1 b cs g1 o1 c1 e1 k1 (hbx ▸ hb) hg1
  · obtain ⟨B1, k1, k2, _⟩ := old j B h
    rw [← k2]
    exact hI.arok j B1 g1 o1 c1 e1 k1 hg1
  · obtain ⟨B1, k1, k2, k3, k4⟩ := old j B h
    rw [← k3, ← k4]
    exact hI.arnew j B1 g1 o1 c1 e1 k1 hg1
  · refine (hkeep k (Nat.lt_of_lt_of_le hk hI.size) (fun i A o c e hT hA he => ?_)).trans (hI.frame k hk hn)
    have := hI.arnew i A k o c e hA he
    split at this
    · exact hn ⟨_, _, this⟩
    · omega
  · obtain ⟨h1, cur0, cur1, e1, h2, h3, h4, h5⟩ := hI.lent g1 o1 n1 hg1
    by_cases hh : ∃ i A o c e, T i ∧ st.ar[i]? = some (some A) ∧ E.ar i = some (g1, o, c, e)
    · obtain ⟨i, A, o, c, e, hT, hA, he⟩ := hh
      obtain ⟨_, l', _, _, k4⟩ := ht i A hT hA
      obtain ⟨cur, cur', m1, m2, m3, m4, m5⟩ := k4 g1 o c e he
      rw [h3] at m1; injection m1 with m1; injection m1 with m1 m1'; subst m1; subst m1'
      have h6 := hI.arnew i A g1 o c e1 hA he
      split at h6
      · obtain ⟨rfl, rfl⟩ := hI.lentu g1 o1 n1 o _ hg1 h6
        exact ⟨h1, cur0, cur', e1, h2, m2, by rw [m3]; exact h4, fun j hj => (m4 j hj).trans (h5 j hj)⟩
      · omega
    · exact ⟨h1, cur0, cur1, e1, h2, (hkeep g1 (Nat.lt_of_lt_of_le h1 hI.size) (fun i A o c e hT hA he => hh ⟨i, A, o, c, e, hT, hA, he⟩)).trans h3, h4, h5⟩
  · obtain ⟨B, k1, k2, k3, k4, k5⟩ := hI.lentat j s q hj
    by_cases hT : T j
    · obtain ⟨_, l', m1, m2, _⟩ := ht j B hT k1
      exact ⟨_, m1, k2, k3, m2.trans k4, k5⟩
    · exact ⟨B, (hne j hT).trans k1, k2, k3, k4, k5⟩
/-- More memory is plain. -/
theorem Inv.okMore (hI : Inv X E ok st a w) {ok' : Nat → Prop} (h1 : ∀ b, ok b → ok' b) (h2 : ∀ b, ok' b → b < w.heap.size) (h3 : ∀ b, ok' b → X.P0 b ∨ X.w0.heap.size ≤ b)
    (h4 : ∀ b cs k, st.bx[b]? = some (some cs) → E.foot b k → ¬ ok' k) (h5 : ∀ i A g o c e, st.ar[i]? = some (some A) → E.ar i = some (g, o, c, e) → ok' g → ok g) :
    Inv X E ok' st a w ∧ Ext w E ok st w E ok' st := by
  have hx : Ext w E ok st w E ok' st := ⟨fun _ _ => rfl, h1, fun b cs h => ⟨⟨cs, h⟩, rfl⟩, fun i A h => ⟨A, h, Nat.le_refl _, fun _ => ⟨rfl, rfl, rfl⟩⟩⟩
  exact ⟨{ hI with
    tm := fun t p v hp hv => (hI.tm t p v hp hv).ext hx
    bx := fun b cs hb => (hI.bx b cs hb).ext (fun _ _ => rfl) hx
    bxok := fun b cs k hb hk => ⟨h4 b cs k hb hk, (hI.bxok b cs k hb hk).2⟩
    arok := fun i A g o c e hA he => ⟨fun hk => (hI.arok i A g o c e hA he).1 (h5 i A g o c e hA he hk), fun hz => h1 g ((hI.arok i A g o c e hA he).2 hz)⟩
    okold := h3, oklt := h2 }, hx⟩

/-! ## What a call asks, what it hands back -/
def E0 : Env := ⟨fun _ => 0, fun _ => [], fun _ => none⟩
def st00 : St := ⟨[], [], []⟩
theorem RelC.plain {w' : World} {E' : Env} {ok' : Nat → Prop} {st' : St} {p : PC} {v : Value} (h : RelC w E ok st p v) (hp : plainC p = true) (hk : ∀ b, ok b → ok' b ∧ w'.heap[b]? = w.heap[b]?) : RelC w' E' ok' st' p v := by
  cases p with
  | unk => cases hp
  | own i ver => cases hp
  | view i ver off len => cases hp
  | box b off => cases hp
  | arr i ver j off => cases hp
  | elt c x off => cases hp
  | objc o => cases hp
  | sl c l =>
    obtain ⟨A, cap, h1, h2, h3⟩ := h
    refine ⟨A, cap, h1, h2, fun hn => ?_⟩
    obtain ⟨g, o, h4, h5, h6⟩ := h3 hn
    exact ⟨g, o, h4, (hk g h5).1, h6.ext (hk g h5).2⟩
  | _ => exact h
def PlainA (w : World) (ok : Nat → Prop) (x : PA) (v : Value) : Prop := RelA w E0 ok st00 x v ∧ (paCells x).all plainC = true
theorem RelCs.plain {w' : World} {E' : Env} {ok' : Nat → Prop} {st' : St} {ps : List PC} {vs : List Value} (h : RelCs w E ok st ps vs) (hp : ps.all plainC = true) (hk : ∀ b, ok b → ok' b ∧ w'.heap[b]? = w.heap[b]?) : RelCs w' E' ok' st' ps vs :=
  ⟨h.1, fun j p v hj hv => (h.2 j p v hj hv).plain (List.all_eq_true.1 hp p (List.mem_of_getElem? hj)) hk⟩
theorem RelA.plain {w' : World} {E' : Env} {ok' : Nat → Prop} {st' : St} {x : PA} {v : Value} (h : RelA w E ok st x v) (hp : (paCells x).all plainC = true) (hk : ∀ b, ok b → ok' b ∧ w'.heap[b]? = w.heap[b]?) : RelA w' E' ok' st' x v := by
  cases x with
  | c p => exact RelC.plain h (by simpa [paCells] using hp) hk
  | agg ps =>
    obtain ⟨vs, h1, h2⟩ := h
    exact ⟨vs, h1, h2.plain hp hk⟩
def ArgRel (w : World) (ok : Nat → Prop) : List AA → List Value → List (SL × Place) → Prop
  | [], [], Ls => Ls = []
  | .v x :: as, v :: vs, Ls => PlainA w ok x v ∧ ArgRel w ok as vs Ls
  | .lent s :: as, v :: vs, Ls => ∃ p Ls', Ls = (s, p) :: Ls' ∧ v = rowV p s.l.length ∧ ArOk w ⟨s.c, s.l, 0, false, true⟩ p ∧ (∀ g o c e, p = some (g, o, c, e) → ¬ ok g) ∧ ArgRel w ok as vs Ls'
  | _, _, _ => False
def LsNe (Ls : List (SL × Place)) : Prop := ∀ (j j' : Nat) (s s' : SL) (g o c e o' c' e' : Nat), Ls[j]? = some (s, some (g, o, c, e)) → Ls[j']? = some (s', some (g, o', c', e')) → j = j'
structure CallPre (w : World) (ok : Nat → Prop) (as : List AA) (vs : List Value) (Ls : List (SL × Place)) : Prop where
  args : ArgRel w ok as vs Ls
  ne : LsNe Ls
  lt : ∀ b, ok b → b < w.heap.size
def RsRel (w : World) (ok : Nat → Prop) (base : Nat) : List Nat → List RA → List Value → Prop
  | _, [], [] => True
  | seen, .v x :: r, v :: vs => PlainA w ok x v ∧ RsRel w ok base seen r vs
  | seen, .fresh k l :: r, v :: vs => ∃ p : Place, v = rowV p l.length ∧ ArOk w ⟨k, l, 0, false, false⟩ p ∧ (∀ g o c e, p = some (g, o, c, e) → base ≤ g ∧ ¬ ok g ∧ g ∉ seen) ∧ RsRel w ok base ((p.map (·.1)).toList ++ seen) r vs
  | _, _, _ => False
def LentPost (w w' : World) (s : SL) (p : Place) (s' : SL) : Prop :=
  s'.c = s.c ∧ s'.l.length = s.l.length ∧ ∀ g o cp e, p = some (g, o, cp, e) → ∃ cur cur', w.heap[g]? = some (.cells cur e (0, 0)) ∧ w'.heap[g]? = some (.cells cur' e (0, 0)) ∧ cur'.size = cur.size ∧
    (∀ j, (j < o ∨ o + s.l.length * s.c.sz ≤ j) → cur'[j]? = cur[j]?) ∧ ∀ j u, (flatV s'.c s'.l)[j]? = some u → cur'[o + j]? = some u
def oneOf (vs : List Value) : Value := match vs with
  | [v] => v
  | vs => .tuple vs.toArray
structure CallPost (w : World) (ok : Nat → Prop) (Ls : List (SL × Place)) (res : Res) (ok' : Nat → Prop) (v : Value) (w' : World) : Prop where
  size : w.heap.size ≤ w'.heap.size
  os : w'.os = w.os
  tape : w'.tape = w.tape
  output : w'.output = w.output
  frame : ∀ b, b < w.heap.size → (∀ s o c e, (s, some (b, o, c, e)) ∉ Ls) → w'.heap[b]? = w.heap[b]?
  okold : ∀ b, ok' b → ok b ∨ w.heap.size ≤ b
  oklt : ∀ b, ok' b → b < w'.heap.size
  mu : res.mu.length = Ls.length ∧ ∀ (j : Nat) (s : SL) (p : Place) (s' : SL), Ls[j]? = some (s, p) → res.mu[j]? = some s' → LentPost w w' s p s'
  rs : ∃ vs, v = oneOf vs ∧ RsRel w' ok' w.heap.size [] res.rs vs
/-- The call returns, and that is so. -/
def Does (P : Program) (f : FuncId) (args : Array Value) (w : World) (R : Value → World → Prop) : Prop :=
  match (callFunc f args).run P w with
  | .ok (.value v) w' => R v w'
  | .ok (.enter g args) w' => Calls P g args w' fun
    | .returned v, w'' => R v w''
    | _, _ => False
  | _ => False
def CallOk (P : Program) (f : FuncId) (as : List AA) (res : Res) : Prop :=
  ∀ (w : World) (ok : Nat → Prop) (vs : List Value) (Ls : List (SL × Place)), CallPre w ok as vs Ls → Does P f vs.toArray w fun v w' => ∃ ok', CallPost w ok Ls res ok' v w'
end Go.Eng
end
section
set_option linter.unusedVariables false
set_option linter.unusedSimpArgs false
namespace Go.Eng
variable {R : Type} {P : Program} {X : Ctx} {E : Env} {ok : Nat → Prop} {st : St} {a : Act} {w : World} {r : R} {o : Oper} {K : PV → St → Option R}

/-- The same but for rows that are plain now. -/
structure Frz (st st' : St) : Prop where
  tm : st'.tm = st.tm
  bx : st'.bx = st.bx
  len : st'.ar.length = st.ar.length
  ar : ∀ i : Nat, st'.ar[i]? = st.ar[i]? ∨ ∃ A : AR, st.ar[i]? = some (some A) ∧ st'.ar[i]? = some (some { A with fz := true })
theorem Frz.refl : Frz st st := ⟨rfl, rfl, rfl, fun _ => .inl rfl⟩
theorem Frz.trans {st1 st2 : St} (h : Frz st st1) (k : Frz st1 st2) : Frz st st2 := by
  refine ⟨k.tm.trans h.tm, k.bx.trans h.bx, k.len.trans h.len, fun i => ?_⟩
  rcases k.ar i with k1 | ⟨A, k1, k2⟩
  · rcases h.ar i with h1 | ⟨B, h1, h2⟩
    · exact .inl (k1.trans h1)
    · exact .inr ⟨B, h1, k1.trans h2⟩
  · rcases h.ar i with h1 | ⟨B, h1, h2⟩
    · exact .inr ⟨A, h1 ▸ k1, k2⟩
    · rw [h2] at k1; injection k1 with k1; injection k1 with k1; subst k1
      exact .inr ⟨B, h1, k2⟩
theorem Frz.set {i : Nat} {A : AR} (h : st.ar[i]? = some (some A)) : Frz st (st.setAr i { A with fz := true }) := by
  refine ⟨rfl, rfl, by simp [St.setAr], fun j => ?_⟩
  by_cases e : i = j
  · subst e
    exact .inr ⟨A, h, List.getElem?_set_self (get_lt h)⟩
  · exact .inl (List.getElem?_set_ne e)
theorem Frz.op {st' : St} (h : Frz st st') (x : Operand) : st'.op x = st.op x := by
  cases x <;> simp [St.op, St.get, h.tm]
theorem Frz.back {st' : St} (h : Frz st st') {i : Nat} {A : AR} (hA : st'.ar[i]? = some (some A)) (hz : A.fz = false) : st.ar[i]? = some (some A) := by
  rcases h.ar i with h1 | ⟨B, h1, h2⟩
  · rw [← h1]; exact hA
  · rw [h2] at hA; injection hA with hA; injection hA with hA
    rw [← hA] at hz; cases hz
theorem frozen_frz {p q : PC} {st1 : St} (h : st.frozen p = some (q, st1)) : Frz st st1 := by
  unfold St.frozen at h
  split at h
  · split at h
    · rename_i A hA
      split at h
      · cases h
      · simp only [Option.some.injEq, Prod.mk.injEq] at h
        obtain ⟨_, rfl⟩ := h
        exact Frz.set (arr?_some hA).1
    · cases h
  · split at h
    · rename_i A hA
      split at h
      · cases h
      · simp only [Option.some.injEq, Prod.mk.injEq] at h
        obtain ⟨_, rfl⟩ := h
        exact Frz.set (arr?_some hA).1
    · cases h
  · cases h
  · cases h
  · cases h
  · cases h
  · cases h
  · simp only [Option.some.injEq, Prod.mk.injEq] at h
    obtain ⟨_, rfl⟩ := h
    exact Frz.refl
theorem frozens_frz : ∀ {ps qs : List PC} {st st1 : St}, st.frozens ps = some (qs, st1) → Frz st st1
  | [], qs, st, st1, h => by
    simp only [St.frozens, Option.some.injEq, Prod.mk.injEq] at h
    obtain ⟨_, rfl⟩ := h
    exact Frz.refl
  | p :: ps, qs, st, st1, h => by
    simp only [St.frozens] at h
    split at h
    · rename_i q st2 h1
      split at h
      · rename_i qs2 st3 h2
        simp only [Option.some.injEq, Prod.mk.injEq] at h
        obtain ⟨_, rfl⟩ := h
        exact (frozen_frz h1).trans (frozens_frz h2)
      · cases h
    · cases h
theorem frozenA_frz {p q : PA} {st1 : St} (h : st.frozenA p = some (q, st1)) : Frz st st1 := by
  unfold St.frozenA at h
  split at h
  · split at h
    · rename_i q' st2 h1
      simp only [Option.some.injEq, Prod.mk.injEq] at h
      obtain ⟨_, rfl⟩ := h
      exact frozen_frz h1
    · cases h
  · split at h
    · rename_i qs st2 h1
      simp only [Option.some.injEq, Prod.mk.injEq] at h
      obtain ⟨_, rfl⟩ := h
      exact frozens_frz h1
    · cases h

/-- Where a lent row lies. -/
def Link (st : St) (E : Env) (v : PV) (s : SL) (p : Place) : Prop :=
  match v with
  | .a (.c (.own i ver)) => ∃ A, st.ar[i]? = some (some A) ∧ A.ver = ver ∧ A.fz = false ∧ s = ⟨A.c, A.l⟩ ∧ p = E.ar i
  | .a (.c (.view i ver off len)) => ∃ A, st.ar[i]? = some (some A) ∧ A.ver = ver ∧ A.fz = false ∧ s = ⟨A.c, (A.l.drop off).take len⟩ ∧ off + len ≤ A.l.length ∧ 0 < len ∧
    ∃ g o cp e cap, E.ar i = some (g, o, cp, e) ∧ p = some (g, o + off * A.c.sz, cap, e)
  | _ => False
def Links (st : St) (E : Env) (lent : List Nat) : Nat → List Operand → List (SL × Place) → Prop
  | _, [], Ls => Ls = []
  | n, x :: r, Ls => if lent.contains n then ∃ s p Ls', Ls = (s, p) :: Ls' ∧ Link st E (st.op x) s p ∧ Links st E lent (n + 1) r Ls' else Links st E lent (n + 1) r Ls
theorem Link.back {st' : St} (h : Frz st st') {v : PV} {s : SL} {p : Place} (hl : Link st' E v s p) : Link st E v s p := by
  unfold Link at hl ⊢
  split at hl
  · obtain ⟨A, h1, h2, h3, h4⟩ := hl
    exact ⟨A, h.back h1 h3, h2, h3, h4⟩
  · obtain ⟨A, h1, h2, h3, h4⟩ := hl
    exact ⟨A, h.back h1 h3, h2, h3, h4⟩
  · exact hl
theorem Links.back {st' : St} (h : Frz st st') {lent : List Nat} : ∀ {xs : List Operand} {n : Nat} {Ls : List (SL × Place)}, Links st' E lent n xs Ls → Links st E lent n xs Ls
  | [], n, Ls, hl => hl
  | x :: xs, n, Ls, hl => by
    unfold Links at hl ⊢
    by_cases hc : lent.contains n = true
    · rw [if_pos hc] at hl ⊢
      obtain ⟨s, p, Ls', h1, h2, h3⟩ := hl
      exact ⟨s, p, Ls', h1, by rw [← h.op x]; exact h2.back h, h3.back h⟩
    · rw [if_neg hc] at hl ⊢
      exact hl.back h
theorem ArgRel.mono {w : World} {ok ok' : Nat → Prop} (h : ∀ b, ok b → ok' b) : ∀ {as : List AA} {vs : List Value} {Ls : List (SL × Place)}, ArgRel w ok as vs Ls → (∀ s g o c e, (s, some (g, o, c, e)) ∈ Ls → ¬ ok' g) → ArgRel w ok' as vs Ls
  | [], [], Ls, h1, _ => h1
  | .v x :: as, v :: vs, Ls, h1, h2 => ⟨⟨RelA.plain h1.1.1 h1.1.2 (fun b hb => ⟨h b hb, rfl⟩), h1.1.2⟩, ArgRel.mono h h1.2 h2⟩
  | .lent s :: as, v :: vs, Ls, h1, h2 => by
    obtain ⟨p, Ls', rfl, h3, h4, h5, h6⟩ := h1
    exact ⟨p, Ls', rfl, h3, h4, fun g o c e hp => h2 s g o c e (by rw [hp]; exact .head _), ArgRel.mono h h6 (fun s g o c e hm => h2 s g o c e (.tail _ hm))⟩
  | [], _ :: _, _, h1, _ => by cases h1
  | .v x :: as, [], _, h1, _ => by cases h1
  | .lent s :: as, [], _, h1, _ => by cases h1
theorem lentPos_frz {st' : St} (h : Frz st st') {lent : List Nat} : ∀ {xs : List Operand} {n : Nat}, lentPos lent st' n xs = lentPos lent st n xs
  | [], n => rfl
  | x :: xs, n => by
    unfold lentPos
    rw [h.op x, lentPos_frz h]
theorem argsOf_sound : ∀ {lent : List Nat} {xs : List Operand} {n : Nat} {as : List AA} {st st0 : St} {ok : Nat → Prop}, Inv X E ok st a w → argsOf lent st n xs = some (as, st0) → lentPos lent st n xs = true →
    ∃ ok0, Inv X E ok0 st0 a w ∧ (∀ b, ok b → ok0 b) ∧ Frz st st0 ∧ ∃ Ls, Links st E lent n xs Ls ∧
      ((∀ s g o c e, (s, some (g, o, c, e)) ∈ Ls → ¬ ok0 g) → ArgRel w ok0 as (xs.map a.eval) Ls)
  | lent, [], n, as, st, st0, ok, hI, h, hpos => by
    simp only [argsOf, Option.some.injEq, Prod.mk.injEq] at h
    obtain ⟨rfl, rfl⟩ := h
    exact ⟨ok, hI, fun _ h => h, Frz.refl, [], rfl, fun _ => rfl⟩
  | lent, x :: xs, n, as, st, st0, ok, hI, h, hpos => by
    have hpos1 : lentPos lent st (n + 1) xs = true := by
      unfold lentPos at hpos
      split at hpos
      · split at hpos
        · simp only [Bool.and_eq_true] at hpos; exact hpos.2
        · exact hpos
      · exact hpos
    unfold argsOf at h
    split at h
    · rename_i aa st1 ha
      split at h
      · rename_i as' st2 hr
        simp only [Option.some.injEq, Prod.mk.injEq] at h
        obtain ⟨rfl, rfl⟩ := h
        have hv := hI.op x
        unfold argOf at ha
        split at ha
        · rename_i pa hx
          rw [hx] at hv
          split at ha
          · rename_i hl
            split at ha
            · rename_i p
              split at ha
              · rename_i i ver
                split at ha
                · rename_i A hA
                  split at ha
                  · cases ha
                  · rename_i hz
                    simp only [Option.some.injEq, Prod.mk.injEq] at ha
                    obtain ⟨rfl, rfl⟩ := ha
                    obtain ⟨hA, hver⟩ := arr?_some hA
                    obtain ⟨ok0, i0, m0, f0, Ls, l0, g0⟩ := argsOf_sound hI hr hpos1
                    refine ⟨ok0, i0, m0, f0, (⟨A.c, A.l⟩, E.ar i) :: Ls, ?_, fun hno => ?_⟩
                    · unfold Links
                      rw [if_pos hl]
                      exact ⟨_, _, _, rfl, by rw [hx]; exact ⟨A, hA, hver, by simpa using hz, rfl, rfl⟩, l0⟩
                    · refine ⟨E.ar i, Ls, rfl, ?_, ?_, fun g o c e hp => hno _ g o c e (by rw [← hp]; exact .head _), g0 (fun s g o c e hm => hno s g o c e (.tail _ hm))⟩
                      · obtain ⟨A', k1, _, k2⟩ := hv
                        rw [hA] at k1; injection k1 with k1; injection k1 with k1; subst k1
                        have := k2 hver
                        revert this
                        cases E.ar i <;> exact id
                      · have h0 := hI.ar i A hA
                        cases he : E.ar i with
                        | none => rw [he] at h0; exact h0
                        | some q =>
                          obtain ⟨g, o, cp, e⟩ := q
                          rw [he] at h0
                          obtain ⟨m1, m2, cur, m3, m4, m5, m6⟩ := h0
                          exact ⟨m1, m2, cur, m3, m4, (fun h => by cases h), m6⟩
                · cases ha
              · rename_i i ver off len
                split at ha
                · rename_i A hA
                  split at ha
                  · cases ha
                  · rename_i hz
                    have hz : A.fz = false := by simpa using hz
                    have hp : 0 < len := by
                      unfold lentPos at hpos
                      rw [if_pos hl, hx] at hpos
                      simp only [Bool.and_eq_true, decide_eq_true_eq] at hpos
                      exact hpos.1
                    simp only [Option.some.injEq, Prod.mk.injEq] at ha
                    obtain ⟨rfl, rfl⟩ := ha
                    obtain ⟨hA, hver⟩ := arr?_some hA
                    obtain ⟨ok0, i0, m0, f0, Ls, l0, g0⟩ := argsOf_sound hI hr hpos1
                    obtain ⟨A', k1, _, k2⟩ := hv
                    rw [hA] at k1; injection k1 with k1; injection k1 with k1; subst k1
                    obtain ⟨hle, ad, cap, k3, k4, k5⟩ := k2 hver
                    obtain ⟨g, o, cp, e, k6, k7, k8⟩ := k5 hp
                    subst k7
                    have hlen : ((A.l.drop off).take len).length = len := by simp; omega
                    refine ⟨ok0, i0, m0, f0, (⟨A.c, (A.l.drop off).take len⟩, some (g, o + off * A.c.sz, cap, e)) :: Ls, ?_, fun hno => ?_⟩
                    · unfold Links
                      rw [if_pos hl]
                      exact ⟨_, _, _, rfl, by rw [hx]; exact ⟨A, hA, hver, hz, rfl, hle, hp, g, o, cp, e, cap, k6, rfl⟩, l0⟩
                    · refine ⟨_, Ls, rfl, ?_, ?_, fun g o c e hp => hno _ g o c e (by rw [← hp]; exact .head _), g0 (fun s g o c e hm => hno s g o c e (.tail _ hm))⟩
                      · rw [hlen]; exact k3
                      · have h0 := hI.ar i A hA
                        rw [k6] at h0
                        obtain ⟨m1, m2, cur, m3, m4, m5, m6⟩ := h0
                        have hmul : off * A.c.sz + cap * A.c.sz ≤ cp * A.c.sz := by rw [← Nat.add_mul]; exact Nat.mul_le_mul_right _ k8
                        refine ⟨by rw [hlen]; exact k4, by omega, cur, m3, ?_, (fun h => by cases h), fun j u hj => ?_⟩
                        · show o + off * A.c.sz + cap * A.c.sz ≤ cur.size
                          omega
                        · have := m6 _ u (flatV_sub hj)
                          rwa [← Nat.add_assoc] at this
                · cases ha
              · cases ha
            · cases ha
          · rename_i hl
            split at ha
            · rename_i q st3 hq
              simp only [Option.some.injEq, Prod.mk.injEq] at ha
              obtain ⟨rfl, rfl⟩ := ha
              obtain ⟨ok1, i1, x1, r1, r2, p1⟩ := frozenA_sound hI hq hv
              have f1 := frozenA_frz hq
              obtain ⟨ok0, i0, m0, f0, Ls, l0, g0⟩ := argsOf_sound i1 hr (by rw [lentPos_frz f1]; exact hpos1)
              refine ⟨ok0, i0, fun b hb => m0 b (x1.ok b hb), f1.trans f0, Ls, ?_, fun hno => ⟨⟨RelA.plain r1 p1 (fun b hb => ⟨m0 b hb, rfl⟩), p1⟩, g0 hno⟩⟩
              unfold Links
              rw [if_neg hl]
              exact l0.back f1
            · cases ha
        · cases ha
      · cases h
    · cases h
end Go.Eng
end
section
set_option linter.unusedVariables false
set_option linter.unusedSimpArgs false
namespace Go.Eng
variable {R : Type} {P : Program} {X : Ctx} {E : Env} {ok : Nat → Prop} {st : St} {a : Act} {w : World} {r : R} {o : Oper} {K : PV → St → Option R}

theorem lentOk_some : ∀ {ix : List Nat}, lentOk st ix = true → ix.Nodup ∧ ∀ i ∈ ix, ∃ A, st.ar[i]? = some (some A) ∧ A.fz = false
  | [], _ => ⟨List.nodup_nil, by simp⟩
  | i :: ix, h => by
    simp only [lentOk, Bool.and_eq_true, Bool.not_eq_true', List.contains_eq_mem, decide_eq_false_iff_not] at h
    obtain ⟨⟨h1, h2⟩, h3⟩ := h
    obtain ⟨k1, k2⟩ := lentOk_some h3
    refine ⟨List.nodup_cons.2 ⟨h1, k1⟩, fun j hj => ?_⟩
    rcases List.mem_cons.1 hj with rfl | hj
    · rw [List.getD_eq_getElem?_getD] at h2
      cases hq : st.ar[j]? with
      | none => rw [hq] at h2; cases h2
      | some z =>
        rw [hq] at h2
        cases z with
        | none => cases h2
        | some A => exact ⟨A, rfl, by simpa using h2⟩
    · exact k2 j hj
/-- The row of a lent argument. -/
def Ix (v : PV) (i : Nat) : Prop := match v with
  | .a (.c (.own j _)) => i = j
  | .a (.c (.view j _ _ _)) => i = j
  | _ => False
theorem Link.ix {v : PV} {s : SL} {p : Place} (h : Link st E v s p) : ∃ i, Ix v i ∧ (∃ ver, v = .a (.c (.own i ver)) ∨ ∃ off len, v = .a (.c (.view i ver off len))) ∧ ∃ A, st.ar[i]? = some (some A) ∧ A.fz = false ∧ ∀ g o c e, p = some (g, o, c, e) → ∃ o' c', E.ar i = some (g, o', c', e) := by
  unfold Link at h
  split at h
  · rename_i i ver
    obtain ⟨A, h1, h2, h3, h4, h5⟩ := h
    exact ⟨i, rfl, ⟨ver, .inl rfl⟩, A, h1, h3, fun g o c e hp => ⟨o, c, by rw [← h5, hp]⟩⟩
  · rename_i i ver off len
    obtain ⟨A, h1, h2, h3, h4, h5, h6, g0, o0, cp, e0, cap, h7, h8⟩ := h
    refine ⟨i, rfl, ⟨ver, .inr ⟨off, len, rfl⟩⟩, A, h1, h3, fun g o c e hp => ?_⟩
    rw [h8] at hp; injection hp with hp
    simp only [Prod.mk.injEq] at hp
    obtain ⟨rfl, _, _, rfl⟩ := hp
    exact ⟨o0, cp, h7⟩
  · cases h
theorem lentIx_cons {lent : List Nat} {x : Operand} {xs : List Operand} {n i : Nat} (hc : lent.contains n = true) (h : ∃ ver, st.op x = .a (.c (.own i ver)) ∨ ∃ off len, st.op x = .a (.c (.view i ver off len))) :
    lentIx lent st n (x :: xs) = i :: lentIx lent st (n + 1) xs := by
  rw [lentIx, if_pos hc]
  obtain ⟨ver, h | ⟨off, len, h⟩⟩ := h <;> rw [h]
theorem Links.ix {lent : List Nat} : ∀ {xs : List Operand} {n : Nat} {Ls : List (SL × Place)}, Links st E lent n xs Ls → Ls.length = (lentIx lent st n xs).length ∧
    ∀ (j : Nat) (s : SL) (p : Place), Ls[j]? = some (s, p) → ∃ i, (lentIx lent st n xs)[j]? = some i ∧ ∃ A, st.ar[i]? = some (some A) ∧ A.fz = false ∧ ∀ g o c e, p = some (g, o, c, e) → ∃ o' c', E.ar i = some (g, o', c', e)
  | [], n, Ls, h => by
    have h : Ls = [] := h
    subst h
    exact ⟨rfl, by simp⟩
  | x :: xs, n, Ls, h => by
    unfold Links at h
    by_cases hc : lent.contains n = true
    · rw [if_pos hc] at h
      obtain ⟨s, p, Ls', rfl, h2, h3⟩ := h
      obtain ⟨i, k1, k2, k3⟩ := h2.ix
      obtain ⟨m1, m2⟩ := h3.ix
      rw [lentIx_cons hc k2]
      refine ⟨by simp [m1], fun j s' p' hj => ?_⟩
      cases j with
      | zero =>
        simp only [List.getElem?_cons_zero, Option.some.injEq, Prod.mk.injEq] at hj
        obtain ⟨rfl, rfl⟩ := hj
        exact ⟨i, rfl, k3⟩
      | succ j => exact m2 j s' p' hj
    · rw [if_neg hc] at h
      unfold lentIx
      rw [if_neg hc]
      exact h.ix
theorem Links.congr {st' : St} {lent : List Nat} (htm : ∀ x, st'.op x = st.op x) : ∀ {xs : List Operand} {n : Nat} {Ls : List (SL × Place)}, Links st E lent n xs Ls → (∀ i ∈ lentIx lent st n xs, st'.ar[i]? = st.ar[i]?) →
    Links st' E lent n xs Ls ∧ lentIx lent st' n xs = lentIx lent st n xs
  | [], n, Ls, h, _ => ⟨h, rfl⟩
  | x :: xs, n, Ls, h, hr => by
    unfold Links at h ⊢
    by_cases hc : lent.contains n = true
    · rw [if_pos hc] at h ⊢
      obtain ⟨s, p, Ls', rfl, h2, h3⟩ := h
      obtain ⟨i, k1, k2, k3⟩ := h2.ix
      have e1 := lentIx_cons (st := st) (xs := xs) hc k2
      rw [e1] at hr
      obtain ⟨m1, m2⟩ := h3.congr htm (fun j hj => hr j (.tail _ hj))
      have hi := hr i (.head _)
      refine ⟨⟨s, p, Ls', rfl, ?_, m1⟩, ?_⟩
      · rw [htm x]
        unfold Link at h2 ⊢
        obtain ⟨ver, hv | ⟨off, len, hv⟩⟩ := k2
        · rw [hv] at h2 ⊢
          obtain ⟨A, q1, q2⟩ := h2
          exact ⟨A, hi.trans q1, q2⟩
        · rw [hv] at h2 ⊢
          obtain ⟨A, q1, q2⟩ := h2
          exact ⟨A, hi.trans q1, q2⟩
      · rw [e1, lentIx_cons hc (by rw [htm x]; exact k2), m2]
    · rw [if_neg hc] at h ⊢
      unfold lentIx at hr ⊢
      rw [if_neg hc] at hr ⊢
      rw [if_neg hc]
      exact h.congr htm hr
/-- A row, after a call. -/
def RowPost (w w' : World) (A : AR) (l' : List A.c.ty) (p : Place) : Prop :=
  l'.length = A.l.length ∧ ∀ g o cp e, p = some (g, o, cp, e) →
      ∃ cur cur', w.heap[g]? = some (.cells cur e (0, 0)) ∧ w'.heap[g]? = some (.cells cur' e (0, 0)) ∧ cur'.size = cur.size ∧ (∀ j, (j < o ∨ o + A.l.length * A.c.sz ≤ j) → cur'[j]? = cur[j]?) ∧ ∀ j u, (flatV A.c l')[j]? = some u → cur'[o + j]? = some u
theorem setAr_op {i : Nat} {A : AR} (x : Operand) : (st.setAr i A).op x = st.op x := by cases x <;> rfl
theorem backOf_sound {w w' : World} : ∀ {lent : List Nat} {xs : List Operand} {n : Nat} {Ls : List (SL × Place)} {mu : List SL} {st st2 : St}, backOf lent st n xs mu = some st2 → Links st E lent n xs Ls →
    (∀ (j : Nat) (s : SL) (p : Place) (s' : SL), Ls[j]? = some (s, p) → mu[j]? = some s' → LentPost w w' s p s') → (lentIx lent st n xs).Nodup → (∀ i ∈ lentIx lent st n xs, ∀ A, st.ar[i]? = some (some A) → ArOk w A (E.ar i)) →
    st2.tm = st.tm ∧ st2.bx = st.bx ∧ st2.ar.length = st.ar.length ∧ (∀ i, i ∉ lentIx lent st n xs → st2.ar[i]? = st.ar[i]?) ∧
    ∀ i ∈ lentIx lent st n xs, ∃ A, st.ar[i]? = some (some A) ∧ A.fz = false ∧ ∃ l', st2.ar[i]? = some (some { A with l := l' }) ∧ RowPost w w' A l' (E.ar i)
  | lent, [], n, Ls, mu, st, st2, h, hl, hp, hn, ha => by
    cases mu with
    | nil =>
      simp only [backOf, Option.some.injEq] at h
      subst h
      exact ⟨rfl, rfl, rfl, fun _ _ => rfl, by simp [lentIx]⟩
    | cons _ _ => simp [backOf] at h
  | lent, x :: xs, n, Ls, mu, st, st2, h, hl, hp, hn, ha => by
    unfold Links at hl
    unfold backOf at h
    by_cases hc : lent.contains n = true
    · rw [if_pos hc] at h hl
      obtain ⟨s, p, Ls', rfl, h2, h3⟩ := hl
      cases mu with
      | nil => cases h
      | cons s' mu =>
        simp only at h
        have hp0 := hp 0 s p s' rfl rfl
        have hp1 : ∀ (j : Nat) (s : SL) (p : Place) (s' : SL), Ls'[j]? = some (s, p) → mu[j]? = some s' → LentPost w w' s p s' := fun j s p s' h1 h2 => hp (j + 1) s p s' h1 h2
        obtain ⟨i, k1, k2, _⟩ := h2.ix
        have e1 := lentIx_cons (st := st) (xs := xs) hc k2
        rw [e1] at hn ha ⊢
        obtain ⟨hni, hn'⟩ := List.nodup_cons.1 hn
        -- what is left, once the row is set
        have step : ∀ (A : AR) (l' : List A.c.ty), st.ar[i]? = some (some A) → A.fz = false → RowPost w w' A l' (E.ar i) → backOf lent (st.setAr i { A with l := l' }) (n + 1) xs mu = some st2 →
            st2.tm = st.tm ∧ st2.bx = st.bx ∧ st2.ar.length = st.ar.length ∧ (∀ j, j ∉ i :: lentIx lent st (n + 1) xs → st2.ar[j]? = st.ar[j]?) ∧
            ∀ j ∈ i :: lentIx lent st (n + 1) xs, ∃ A, st.ar[j]? = some (some A) ∧ A.fz = false ∧ ∃ l', st2.ar[j]? = some (some { A with l := l' }) ∧ RowPost w w' A l' (E.ar j) := by
          intro A l' hA hz hrow hb
          have hsame : ∀ j ∈ lentIx lent st (n + 1) xs, (st.setAr i { A with l := l' }).ar[j]? = st.ar[j]? := fun j hj => List.getElem?_set_ne (by rintro rfl; exact hni hj)
          obtain ⟨c1, c2⟩ := h3.congr (st' := st.setAr i { A with l := l' }) (fun x => setAr_op x) hsame
          obtain ⟨q1, q2, q3, q4, q5⟩ := backOf_sound hb c1 hp1 (by rw [c2]; exact hn') (fun j hj B hB => by
            rw [c2] at hj
            rw [hsame j hj] at hB
            exact ha j (.tail _ hj) B hB)
          rw [c2] at q4 q5
          refine ⟨q1, q2, q3.trans (by simp [St.setAr]), fun j hj => ?_, fun j hj => ?_⟩
          · rw [List.mem_cons, not_or] at hj
            exact (q4 j hj.2).trans (List.getElem?_set_ne (Ne.symm hj.1))
          · rcases List.mem_cons.1 hj with rfl | hj
            · exact ⟨A, hA, hz, l', (q4 j hni).trans (List.getElem?_set_self (get_lt hA)), hrow⟩
            · obtain ⟨B, b1, b2, l2, b3, b4⟩ := q5 j hj
              rw [hsame j hj] at b1
              exact ⟨B, b1, b2, l2, b3, b4⟩
        unfold Link at h2
        obtain ⟨ver, hv | ⟨off, len, hv⟩⟩ := k2
        · rw [hv] at h h2
          simp only at h h2
          obtain ⟨A, q1, q2, q3, rfl, rfl⟩ := h2
          split at h
          · rename_i B hB
            obtain ⟨hB, _⟩ := arr?_some hB
            rw [q1] at hB; injection hB with hB; injection hB with hB; subst hB
            split at h
            · rename_i hcc
              obtain ⟨sc, sl⟩ := s'
              simp only at hcc
              subst hcc
              obtain ⟨_, hp2, hp3⟩ := hp0
              exact step A sl q1 q3 ⟨hp2, hp3⟩ h
            · cases h
          · cases h
        · rw [hv] at h h2
          simp only at h h2
          obtain ⟨A, q1, q2, q3, rfl, q5, q6, g, o, cp, e, cap, q7, rfl⟩ := h2
          split at h
          · rename_i B hB
            obtain ⟨hB, _⟩ := arr?_some hB
            rw [q1] at hB; injection hB with hB; injection hB with hB; subst hB
            split at h
            · rename_i hcc
              obtain ⟨sc, sl⟩ := s'
              simp only at hcc
              subst hcc
              obtain ⟨_, hp2, hp3⟩ := hp0
              have hll : sl.length = len := by simp only [List.length_take, List.length_drop] at hp2; omega
              have h0 := ha i (.head _) A q1
              refine step A _ q1 q3 ⟨?_, fun g' o' cp' e' he => ?_⟩ h
              · simp only [List.length_append, List.length_take, List.length_drop]
                omega
              · rw [q7] at he; injection he with he
                simp only [Prod.mk.injEq] at he
                obtain ⟨rfl, rfl, rfl, rfl⟩ := he
                rw [q7] at h0
                obtain ⟨m1, m2, cur0, m3, m4, m5, m6⟩ := h0
                obtain ⟨cur, cur', n1, n2, n3, n4, n5⟩ := hp3 _ _ _ _ rfl
                rw [m3] at n1; injection n1 with n1; injection n1 with n1; subst n1
                have hlen : ((A.l.drop off).take len).length = len := by simp; omega
                simp only [hlen] at n4
                have hmul : off * A.c.sz + len * A.c.sz ≤ A.l.length * A.c.sz := by rw [← Nat.add_mul]; exact Nat.mul_le_mul_right _ q5
                refine ⟨_, cur', m3, n2, n3, fun j hj => n4 j (by omega), fun j u hj => ?_⟩
                rw [flatV_append, flatV_append, List.append_assoc] at hj
                have l1 : (flatV A.c (A.l.take off)).length = off * A.c.sz := by rw [flatV_length, List.length_take, Nat.min_eq_left (by omega)]
                have l2 : (flatV A.c sl).length = len * A.c.sz := by rw [flatV_length, hll]
                rw [List.getElem?_append, l1, List.getElem?_append, l2] at hj
                split at hj
                · rename_i hjo
                  rw [n4 _ (by omega)]
                  rw [flatV_take, List.getElem?_take_of_lt hjo] at hj
                  exact m6 j u hj
                · split at hj
                  · have := n5 _ u hj
                    rwa [show o + off * A.c.sz + (j - off * A.c.sz) = o + j by omega] at this
                  · rw [n4 _ (by omega)]
                    rw [flatV_drop, List.getElem?_drop] at hj
                    refine m6 j u ?_
                    rw [← hj]
                    congr 1
                    rw [Nat.add_mul]
                    omega
            · cases h
          · cases h
    · rw [if_neg hc] at h hl
      have e1 : lentIx lent st n (x :: xs) = lentIx lent st (n + 1) xs := by
        conv => lhs; unfold lentIx
        rw [if_neg hc]
      rw [e1] at hn ha ⊢
      exact backOf_sound h hl hp hn ha
end Go.Eng
end
section
set_option linter.unusedVariables false
set_option linter.unusedSimpArgs false
namespace Go.Eng
variable {R : Type} {P : Program} {X : Ctx} {E : Env} {ok : Nat → Prop} {st : St} {a : Act} {w : World} {r : R} {o : Oper} {K : PV → St → Option R}

theorem scDec_enc {s : SC} {p : PC} {x : s.ty} (h : s.dec p = some x) : p = s.enc x ∨ (p = .nil ∧ ∃ c, ∃ hs : s = .sl c, s.enc x = .sl c []) := by
  cases s with
  | int k =>
    simp only [SC.dec] at h
    split at h
    · split at h
      · rename_i hk
        subst hk
        injection h with h; subst h
        exact .inl rfl
      · cases h
    · cases h
  | bool =>
    simp only [SC.dec] at h
    split at h
    · injection h with h; subst h
      exact .inl rfl
    · cases h
  | str =>
    simp only [SC.dec] at h
    split at h
    · injection h with h; subst h
      exact .inl rfl
    · cases h
  | sl c =>
    simp only [SC.dec] at h
    split at h
    · split at h
      · rename_i hk
        subst hk
        injection h with h; subst h
        exact .inl rfl
      · cases h
    · injection h with h; subst h
      exact .inr ⟨rfl, c, rfl, rfl⟩
    · cases h
theorem relC_dec {s : SC} {p : PC} {x : s.ty} {v : Value} (h : s.dec p = some x) (hr : RelC w E ok st p v) : RelC w E ok st (s.enc x) v := by
  rcases scDec_enc h with h1 | ⟨rfl, c, _, h1⟩
  · rw [← h1]; exact hr
  · rw [h1]
    have hr : v = .slice none 0 0 := hr
    exact ⟨none, 0, hr, Nat.le_refl _, fun hn => absurd rfl hn⟩
theorem plain_enc {s : SC} {x : s.ty} : plainC (s.enc x) = true := by cases s <;> rfl
theorem decCells_cons {s : SC} {r : List SC} {ps : List PC} {x : prodTy (s :: r)} (h : decCells (s :: r) ps = some x) : ∃ p ps' y z, ps = p :: ps' ∧ s.dec p = some y ∧ decCells r ps' = some z ∧ encCells (s :: r) x = s.enc y :: encCells r z := by
  cases r with
  | nil =>
    match ps, h with
    | [p], h => exact ⟨p, [], x, (), rfl, h, rfl, rfl⟩
    | p :: q :: ps, h => simp [decCells] at h
  | cons s' r =>
    match ps, h with
    | p :: ps, h =>
      simp only [decCells] at h
      split at h
      · rename_i y hy
        split at h
        · rename_i z hz
          injection h with h; subst h
          exact ⟨p, ps, y, z, rfl, hy, hz, rfl⟩
        · cases h
      · cases h
theorem relCs_dec : ∀ {ss : List SC} {ps : List PC} {x : prodTy ss} {vs : List Value}, decCells ss ps = some x → RelCs w E ok st ps vs → RelCs w E ok st (encCells ss x) vs ∧ (encCells ss x).all plainC = true
  | [], ps, x, vs, h, hr => by
    cases ps with
    | nil => exact ⟨hr, rfl⟩
    | cons p ps => simp [decCells] at h
  | s :: ss, ps, x, vs, h, hr => by
    obtain ⟨p, ps', y, z, rfl, h1, h2, h3⟩ := decCells_cons h
    cases vs with
    | nil => have := hr.1; simp at this
    | cons v vs =>
      obtain ⟨k1, k2⟩ := relCs_dec h2 (vs := vs) ⟨by simpa using hr.1, fun j p v hp hv => hr.2 (j + 1) p v hp hv⟩
      rw [h3]
      refine ⟨⟨by simp [k1.1], fun j p v hp hv => ?_⟩, by simp [plain_enc, k2]⟩
      cases j with
      | zero =>
        simp only [List.getElem?_cons_zero, Option.some.injEq] at hp hv
        subst hp; subst hv
        exact relC_dec h1 (hr.2 0 _ _ rfl rfl)
      | succ j => exact k1.2 j p v hp hv
theorem raDec_cons {s : SA} {r : List SA} {ps : List RA} {x : raTy (s :: r)} (h : raDec (s :: r) ps = some x) : ∃ p ps' y z, ps = p :: ps' ∧ s.dec p = some y ∧ raDec r ps' = some z ∧ raEnc (s :: r) x = s.enc y :: raEnc r z := by
  cases r with
  | nil =>
    match ps, h with
    | [p], h => exact ⟨p, [], x, (), rfl, h, rfl, rfl⟩
    | p :: q :: ps, h => simp [raDec] at h
  | cons s' r =>
    match ps, h with
    | p :: ps, h =>
      simp only [raDec] at h
      split at h
      · rename_i y hy
        split at h
        · rename_i z hz
          injection h with h; subst h
          exact ⟨p, ps, y, z, rfl, hy, hz, rfl⟩
        · cases h
      · cases h
theorem PlainA.mono {ok' : Nat → Prop} {x : PA} {v : Value} (h : PlainA w ok x v) (hk : ∀ b, ok b → ok' b) : PlainA w ok' x v := ⟨RelA.plain h.1 h.2 (fun b hb => ⟨hk b hb, rfl⟩), h.2⟩
theorem RsRel.mono {ok ok' : Nat → Prop} {base : Nat} (hk : ∀ b, ok b → ok' b) : ∀ {rs : List RA} {vs : List Value} {seen seen' : List Nat}, RsRel w ok base seen rs vs → (∀ b, b ∈ seen' → b ∈ seen) →
    (∀ b, ok' b → ok b ∨ b ∈ seen) → RsRel w ok' base seen' rs vs
  | [], [], _, _, _, _, _ => trivial
  | .v x :: rs, v :: vs, _, _, h, h1, h2 => ⟨h.1.mono hk, h.2.mono hk h1 h2⟩
  | .fresh k l :: rs, v :: vs, seen, seen', h, h1, h2 => by
    obtain ⟨p, k1, k2, k3, k4⟩ := h
    refine ⟨p, k1, k2, fun g o c e hp => ?_, k4.mono hk (fun b hb => ?_) (fun b hb => ?_)⟩
    · obtain ⟨m1, m2, m3⟩ := k3 g o c e hp
      exact ⟨m1, fun hg => (h2 g hg).elim m2 m3, fun hg => m3 (h1 g hg)⟩
    · rw [List.mem_append] at hb ⊢
      exact hb.imp id (h1 b)
    · rcases h2 b hb with h | h
      · exact .inl h
      · exact .inr (List.mem_append.2 (.inr h))
  | [], _ :: _, _, _, h, _, _ => by cases h
  | .v x :: rs, [], _, _, h, _, _ => by cases h
  | .fresh k l :: rs, [], _, _, h, _, _ => by cases h
theorem RsRel.dec {base : Nat} : ∀ {ss : List SA} {rs : List RA} {x : raTy ss} {vs : List Value} {seen : List Nat} {ok : Nat → Prop}, RsRel w ok base seen rs vs → raDec ss rs = some x →
    ∃ ok', (∀ b, ok b → ok' b) ∧ (∀ b, ok' b → ok b ∨ (base ≤ b ∧ b < w.heap.size ∧ b ∉ seen)) ∧ RsRel w ok' base seen (raEnc ss x) vs
  | [], rs, x, vs, seen, ok, h, hd => by
    cases rs with
    | nil => exact ⟨ok, fun _ h => h, fun _ h => .inl h, h⟩
    | cons _ _ => simp [raDec] at hd
  | s :: ss, rs, x, vs, seen, ok, h, hd => by
    obtain ⟨p, ps', y, z, rfl, h1, h2, h3⟩ := raDec_cons hd
    rw [h3]
    cases vs with
    | nil => cases p <;> cases h
    | cons v vs =>
      cases p with
      | v pa =>
        obtain ⟨ha, hr⟩ := h
        cases s with
        | one s =>
          cases pa with
          | agg ps => simp [SA.dec] at h1
          | c p =>
            simp only [SA.dec] at h1
            obtain ⟨ok', m1, m2, m3⟩ := RsRel.dec hr h2
            refine ⟨ok', m1, m2, ⟨⟨?_, by simp [paCells, plain_enc]⟩, m3⟩⟩
            have ha1 : RelC w E0 ok st00 p v := ha.1
            have := RelC.plain (E' := E0) (ok' := ok') (st' := st00) (w' := w) (relC_dec h1 ha1) plain_enc (fun b hb => ⟨m1 b hb, rfl⟩)
            exact this
        | agg sc =>
          cases pa with
          | c p => simp [SA.dec] at h1
          | agg ps =>
            simp only [SA.dec] at h1
            obtain ⟨ok', m1, m2, m3⟩ := RsRel.dec hr h2
            obtain ⟨us, rfl, hu⟩ := ha.1
            obtain ⟨q1, q2⟩ := relCs_dec h1 hu
            exact ⟨ok', m1, m2, ⟨⟨⟨us, rfl, q1.plain q2 (fun b hb => ⟨m1 b hb, rfl⟩)⟩, q2⟩, m3⟩⟩
        | fresh k =>
          simp only [SA.dec] at h1
          split at h1
          · rename_i he; cases he
          · rename_i he
            injection he with he
            subst he
            injection h1 with h1; subst h1
            obtain ⟨ok', m1, m2, m3⟩ := RsRel.dec hr h2
            have hv : v = .slice none 0 0 := ha.1
            exact ⟨ok', m1, m2, ⟨none, hv, rfl, (fun g o c e hp => by cases hp), by simpa using m3⟩⟩
          · cases h1
      | fresh k l =>
        obtain ⟨p, k1, k2, k3, k4⟩ := h
        cases s with
        | agg sc => simp [SA.dec] at h1
        | one s =>
          simp only [SA.dec] at h1
          split at h1
          · rename_i k2'
            split at h1
            · rename_i hk
              subst hk
              injection h1 with h1; subst h1
              obtain ⟨ok', m1, m2, m3⟩ := RsRel.dec k4 h2
              refine ⟨fun b => ok' b ∨ b ∈ (p.map (·.1)).toList, fun b hb => .inl (m1 b hb), fun b hb => ?_, ⟨⟨?_, rfl⟩, m3.mono (fun b hb => .inl hb) (fun b hb => List.mem_append.2 (.inr hb)) (fun b hb => hb.imp id (fun h => List.mem_append.2 (.inl h)))⟩⟩
              · rcases hb with hb | hb
                · rcases m2 b hb with h | ⟨h5, h6, h7⟩
                  · exact .inl h
                  · exact .inr ⟨h5, h6, fun h => h7 (List.mem_append.2 (.inr h))⟩
                · cases p with
                  | none => simp at hb
                  | some q =>
                    obtain ⟨g, o, c, e⟩ := q
                    simp only [Option.map_some, Option.toList_some, List.mem_singleton] at hb
                    subst hb
                    obtain ⟨n1, n2, n3⟩ := k3 _ o c e rfl
                    exact .inr ⟨n1, k2.lt, n3⟩
              · cases p with
                | none =>
                  have k2 : l = [] := k2
                  subst k2
                  exact ⟨none, 0, k1, Nat.le_refl _, fun hn => absurd rfl hn⟩
                | some q =>
                  obtain ⟨g, o, cap, e⟩ := q
                  obtain ⟨n1, n2, cur, n3, n4, n5, n6⟩ := k2
                  exact ⟨_, cap, k1, n1, fun _ => ⟨g, o, rfl, .inr (by simp), cur, e, _, n3, n6⟩⟩
            · cases h1
          · cases h1
        | fresh k' =>
          simp only [SA.dec] at h1
          split at h1
          · rename_i hk
            subst hk
            injection h1 with h1; subst h1
            obtain ⟨ok', m1, m2, m3⟩ := RsRel.dec k4 h2
            refine ⟨ok', m1, fun b hb => ?_, p, k1, k2, fun g o c e hp => ?_, m3⟩
            · rcases m2 b hb with h | ⟨h5, h6, h7⟩
              · exact .inl h
              · exact .inr ⟨h5, h6, fun h => h7 (List.mem_append.2 (.inr h))⟩
            · obtain ⟨n1, n2, n3⟩ := k3 g o c e hp
              refine ⟨n1, fun hg => ?_, n3⟩
              rcases m2 g hg with h | ⟨_, _, h7⟩
              · exact n2 h
              · exact h7 (List.mem_append.2 (.inl (by rw [hp]; simp)))
          · cases h1
theorem slDec_eq {k : Cd} {s : SL} {l : List k.ty} (h : slDec k s = some l) : s = ⟨k, l⟩ := by
  unfold slDec at h
  split at h
  · rename_i hk
    obtain ⟨c, l'⟩ := s
    simp only at hk
    subst hk
    injection h with h; subst h
    rfl
  · cases h
theorem muDec_enc : ∀ {ks : List Cd} {mu : List SL} {x : muTy ks}, muDec ks mu = some x → muEnc ks x = mu
  | [], mu, x, h => by
    cases mu with
    | nil => rfl
    | cons _ _ => simp [muDec] at h
  | [k], mu, x, h => by
    match mu, h with
    | [s], h => exact congrArg (fun z => [z]) (slDec_eq h).symm
    | s :: t :: mu, h => simp [muDec] at h
  | k :: k' :: r, mu, x, h => by
    match mu, h with
    | s :: ss, h =>
      simp only [muDec] at h
      split at h
      · rename_i y hy
        split at h
        · rename_i z hz
          injection h with h; subst h
          simp only [muEnc]
          rw [muDec_enc hz, slDec_eq hy]
        · cases h
      · cases h
theorem shDec_some {rs : List SA} {mu : List Cd} {res : Res} {x : shTy rs mu} (h : shDec rs mu res = some x) : ∃ y : raTy rs, raDec rs res.rs = some y ∧ (shEnc rs mu x).rs = raEnc rs y ∧ (shEnc rs mu x).mu = res.mu := by
  obtain ⟨l, l'⟩ := res
  cases rs with
  | nil =>
    cases mu with
    | nil =>
      cases l with
      | nil =>
        cases l' with
        | nil => exact ⟨(), rfl, rfl, rfl⟩
        | cons _ _ => simp [shDec] at h
      | cons _ _ => simp [shDec] at h
    | cons m mu =>
      cases l with
      | nil => exact ⟨(), rfl, rfl, muDec_enc h⟩
      | cons _ _ => simp [shDec] at h
  | cons s rs =>
    cases mu with
    | nil =>
      cases l' with
      | nil => exact ⟨x, h, rfl, rfl⟩
      | cons _ _ => simp [shDec] at h
    | cons m mu =>
      simp only [shDec] at h
      split at h
      · rename_i y hy
        split at h
        · rename_i z hz
          injection h with h; subst h
          exact ⟨y, hy, rfl, muDec_enc hz⟩
        · cases h
      · cases h
/-- Results that are no slices. -/
theorem nosl_enc {s : SC} (hs : scNo s = true) {x : s.ty} {ok ok' : Nat → Prop} {v : Value} (h : RelC w E ok st (s.enc x) v) : RelC w E ok' st (s.enc x) v := by
  cases s with
  | sl c => cases hs
  | _ => exact h
theorem RsRel.nosl {base : Nat} {ok ok' : Nat → Prop} (hk : ∀ b, ok' b → b < base) : ∀ {ss : List SA} {x : raTy ss} {vs : List Value} {seen : List Nat}, noSl ss = true → RsRel w ok base seen (raEnc ss x) vs → RsRel w ok' base seen (raEnc ss x) vs
  | [], x, vs, seen, _, h => by cases vs <;> exact h
  | s :: ss, x, vs, seen, hn, h => by
    obtain ⟨y, z, he⟩ : ∃ (y : s.ty) (z : raTy ss), raEnc (s :: ss) x = s.enc y :: raEnc ss z := by
      cases ss with
      | nil => exact ⟨x, (), rfl⟩
      | cons s' ss => exact ⟨x.1, x.2, rfl⟩
    rw [he] at h ⊢
    cases vs with
    | nil => cases s <;> cases h
    | cons v vs =>
      cases s with
      | one s =>
        simp only [noSl, Bool.and_eq_true] at hn
        have h11 : RelC w E0 ok st00 (s.enc y) v := h.1.1
        exact ⟨⟨nosl_enc hn.1 h11, h.1.2⟩, RsRel.nosl hk hn.2 h.2⟩
      | agg sc =>
        simp only [noSl, Bool.and_eq_true] at hn
        obtain ⟨us, h1, h2⟩ := h.1.1
        refine ⟨⟨⟨us, h1, h2.1, fun j p u hp hu => ?_⟩, h.1.2⟩, RsRel.nosl hk hn.2 h.2⟩
        have h3 := h2.2 j p u hp hu
        have aux : ∀ {sc : List SC} {y : prodTy sc} {p : PC}, sc.all scNo = true → p ∈ encCells sc y → ∃ s : SC, ∃ z : s.ty, p = s.enc z ∧ scNo s = true := by
          intro sc
          induction sc with
          | nil => intro y p _ hp; cases hp
          | cons s sc ih =>
            intro y p ha hp
            simp only [List.all_cons, Bool.and_eq_true] at ha
            cases sc with
            | nil =>
              rcases List.mem_singleton.1 hp with rfl
              exact ⟨s, y, rfl, ha.1⟩
            | cons s' sc =>
              rcases List.mem_cons.1 hp with rfl | hp
              · exact ⟨s, y.1, rfl, ha.1⟩
              · exact ih (y := y.2) ha.2 hp
        obtain ⟨s, z, rfl, hs⟩ := aux hn.1 (List.mem_of_getElem? hp)
        exact nosl_enc hs h3
      | fresh k =>
        obtain ⟨p, k1, k2, k3, k4⟩ := h
        refine ⟨p, k1, k2, fun g o c e hp => ?_, RsRel.nosl hk (by simpa [noSl] using hn) k4⟩
        obtain ⟨n1, n2, n3⟩ := k3 g o c e hp
        exact ⟨n1, fun hg => by have := hk g hg; omega, n3⟩
end Go.Eng
end
section
set_option linter.unusedVariables false
set_option linter.unusedSimpArgs false
namespace Go.Eng
variable {R : Type} {P : Program} {X : Ctx} {E : Env} {ok : Nat → Prop} {st : St} {a : Act} {w : World} {r : R} {o : Oper} {K : PV → St → Option R}

/-! ## Calls that an object takes part in -/
def LooseA (w : World) (ok : Nat → Prop) (x : PA) (v : Value) : Prop := RelA w E0 ok st00 x v ∧ (paCells x).all looseC = true
theorem RelC.loose {w' : World} {E' : Env} {ok' : Nat → Prop} {st' : St} {p : PC} {v : Value} (h : RelC w E ok st p v) (hp : looseC p = true) (hk : ∀ b, ok b → ok' b ∧ w'.heap[b]? = w.heap[b]?) : RelC w' E' ok' st' p v := by
  unfold looseC at hp
  by_cases hq : plainC p = true
  · exact h.plain hq hk
  · cases p with
    | unk => trivial
    | _ => simp_all
theorem RelA.loose {w' : World} {E' : Env} {ok' : Nat → Prop} {st' : St} {x : PA} {v : Value} (h : RelA w E ok st x v) (hp : (paCells x).all looseC = true) (hk : ∀ b, ok b → ok' b ∧ w'.heap[b]? = w.heap[b]?) : RelA w' E' ok' st' x v := by
  cases x with
  | c p => exact RelC.loose h (by simpa [paCells] using hp) hk
  | agg ps =>
    obtain ⟨vs, h1, h2⟩ := h
    exact ⟨vs, h1, h2.1, fun j p v hj hv => (h2.2 j p v hj hv).loose (List.all_eq_true.1 hp p (List.mem_of_getElem? hj)) hk⟩
def PlainAs (w : World) (ok : Nat → Prop) : List PA → List Value → Prop
  | [], [] => True
  | x :: as, v :: vs => PlainA w ok x v ∧ PlainAs w ok as vs
  | _, _ => False
theorem PlainAs.mono {w : World} {ok ok' : Nat → Prop} (hk : ∀ b, ok b → ok' b) : ∀ {as : List PA} {vs : List Value}, PlainAs w ok as vs → PlainAs w ok' as vs
  | [], [], _ => trivial
  | x :: as, v :: vs, h => ⟨h.1.mono hk, h.2.mono hk⟩
  | [], _ :: _, h => by cases h
  | _ :: _, [], h => by cases h
def ORel (w : World) (ok : Nat → Prop) (base : Nat) (used : List Nat) : List (PA ⊕ Ob) → List Value → Prop
  | [], [] => True
  | .inl x :: r, v :: vs => LooseA w ok x v ∧ ORel w ok base used r vs
  | .inr o :: r, v :: vs => (∃ m fs, v = .pointer (some ⟨m, 0, none⟩) ∧ ObAt w ok m fs o ∧ ∀ k, k = m ∨ k ∈ fs → base ≤ k ∧ k < w.heap.size ∧ ¬ ok k ∧ k ∉ used) ∧ ORel w ok base used r vs
  | _, _ => False
structure ObPost (w : World) (ok : Nat → Prop) (oo : Option (Ob × Nat × List Nat)) (r : ObR) (ok' : Nat → Prop) (v : Value) (w' : World) : Prop where
  size : w.heap.size ≤ w'.heap.size
  os : w'.os = w.os
  tape : w'.tape = w.tape
  output : w'.output = w.output
  frame : ∀ k, k < w.heap.size → (∀ o m fs, oo = some (o, m, fs) → k ≠ m ∧ k ∉ fs) → w'.heap[k]? = w.heap[k]?
  okmono : ∀ k, ok k → ok' k
  oknew : ∀ k, ok' k → ok k ∨ (w.heap.size ≤ k ∧ k < w'.heap.size)
  rs : ∃ fs' : List Nat, (match oo, r.ob with
    | none, none => True
    | some (_, m, fs), some o' => ObAt w' ok' m fs' o' ∧ (∀ k ∈ fs', (k ∈ fs ∨ w.heap.size ≤ k) ∧ k < w'.heap.size ∧ ¬ ok' k)
    | _, _ => False) ∧ ∃ vs, v = oneOf vs ∧ ORel w' ok' w.heap.size fs' r.rs vs
/-- The call of an object's function comes to f. -/
def ObCallOk (P : Program) (g : FuncId) (f : Option Ob → List PA → Option ObR) : Prop :=
  ∀ (w : World) (ok : Nat → Prop) (oo : Option (Ob × Nat × List Nat)) (as : List PA) (vs : List Value) (r : ObR), (∀ b, ok b → b < w.heap.size) → f (oo.map (·.1)) as = some r → r.ok = true → PlainAs w ok as vs →
    (∀ o m fs, oo = some (o, m, fs) → ObAt w ok m fs o ∧ ∀ k, k = m ∨ k ∈ fs → ¬ ok k ∧ k < w.heap.size) →
    Does P g ((oo.map fun x => Value.pointer (some ⟨x.2.1, 0, none⟩)).toList ++ vs).toArray w fun v w' => ∃ ok', ObPost w ok oo r ok' v w'
def ObsOk (P : Program) (sg : FuncId → Option Sh) : Prop := ∀ g sh f, sg g = some sh → sh.obj = some f → ObCallOk P g f

theorem plainArgs_sound : ∀ {xs : List Operand} {as : List PA} {st st1 : St} {ok : Nat → Prop}, Inv X E ok st a w → plainArgs st xs = some (as, st1) →
    ∃ ok', Inv X E ok' st1 a w ∧ Ext w E ok st w E ok' st1 ∧ Frz st st1 ∧ PlainAs w ok' as (xs.map a.eval)
  | [], as, st, st1, ok, hI, h => by
    simp only [plainArgs, Option.some.injEq, Prod.mk.injEq] at h
    obtain ⟨rfl, rfl⟩ := h
    exact ⟨ok, hI, Ext.refl, Frz.refl, trivial⟩
  | x :: xs, as, st, st1, ok, hI, h => by
    unfold plainArgs at h
    split at h
    · rename_i pa hx
      have hv := hI.op x
      rw [hx] at hv
      split at h
      · rename_i q st2 hq
        obtain ⟨ok1, i1, x1, r1, r2, p1⟩ := frozenA_sound hI hq hv
        split at h
        · rename_i as' st3 hl
          simp only [Option.some.injEq, Prod.mk.injEq] at h
          obtain ⟨rfl, rfl⟩ := h
          obtain ⟨ok2, i2, x2, f2, k2⟩ := plainArgs_sound i1 hl
          exact ⟨ok2, i2, x1.trans x2, (frozenA_frz hq).trans f2, ⟨RelA.plain r1 p1 (fun b hb => ⟨x2.ok b hb, x2.heap b hb⟩), p1⟩, k2⟩
        · cases h
      · cases h
    · cases h
/-- New blocks alone, some of them plain. -/
theorem Inv.grownOk (hI : Inv X E ok st a w) {w' : World} {ok' : Nat → Prop} (hsz : w.heap.size ≤ w'.heap.size) (hos : w'.os = w.os) (htape : w'.tape = w.tape) (hout : w'.output = w.output)
    (ho : ∀ k, k < w.heap.size → w'.heap[k]? = w.heap[k]?) (hok : ∀ k, ok k → ok' k) (hok' : ∀ k, ok' k → ok k ∨ (w.heap.size ≤ k ∧ k < w'.heap.size)) : Inv X E ok' st a w' ∧ Ext w E ok st w' E ok' st := by
  obtain ⟨i1, x1⟩ := hI.redo (w' := w') (st' := st) (fun _ => False) rfl rfl rfl hsz hos htape hout (fun b hb _ => ho b hb) (fun _ _ => rfl) (fun _ _ h => h.elim) (fun _ h => h.elim)
  obtain ⟨i2, x2⟩ := i1.okMore (ok' := ok') hok
    (fun b hb => (hok' b hb).elim (fun h => i1.oklt b h) (fun h => h.2))
    (fun b hb => (hok' b hb).elim (fun h => hI.okold b h) (fun h => .inr (Nat.le_trans hI.size h.1)))
    (fun b cs k hb hk hh => (hok' k hh).elim (fun h => (hI.bxok b cs k hb hk).1 h) (fun h => by have := hI.foot_lt hb hk; omega))
    (fun i A g o c e hA he hh => (hok' g hh).elim id (fun h => by have := hI.ar_lt hA he; omega))
  exact ⟨i2, x1.trans x2⟩
theorem orOf_sound {base : Nat} (hbase : X.w0.heap.size ≤ base) {slot : Nat} : ∀ {rs : List (PA ⊕ Ob)} {vs : List Value} {used : List Nat} {xs : List PA} {st st3 : St} {E : Env}, Inv X E ok st a w → orOf slot st rs = some (xs, st3) → ORel w ok base used rs vs →
    (∀ b cs k, st.bx[b]? = some (some cs) → E.foot b k → k < base ∨ k ∈ used ∨ b = slot) → (∀ i A g o c e, st.ar[i]? = some (some A) → E.ar i = some (g, o, c, e) → g < base) →
    ∃ E3, Inv X E3 ok st3 a w ∧ Ext w E ok st w E3 ok st3 ∧ xs.length = vs.length ∧ ∀ (j : Nat) (x : PA) (v : Value), xs[j]? = some x → vs[j]? = some v → RelA w E3 ok st3 x v
  | [], vs, used, xs, st, st3, E, hI, h, hr, hb, ha => by
    simp only [orOf, Option.some.injEq, Prod.mk.injEq] at h
    obtain ⟨rfl, rfl⟩ := h
    cases vs with
    | nil => exact ⟨E, hI, Ext.refl, rfl, by simp⟩
    | cons _ _ => cases hr
  | .inl x :: rs, vs, used, xs, st, st3, E, hI, h, hr, hb, ha => by
    cases vs with
    | nil => cases hr
    | cons v vs =>
      simp only [orOf] at h
      split at h
      · rename_i l st1 h1
        simp only [Option.some.injEq, Prod.mk.injEq] at h
        obtain ⟨rfl, rfl⟩ := h
        obtain ⟨E3, i3, x3, l3, r3⟩ := orOf_sound hbase hI h1 hr.2 hb ha
        refine ⟨E3, i3, x3, by simp [l3], fun j y u hj hu => ?_⟩
        cases j with
        | zero =>
          simp only [List.getElem?_cons_zero, Option.some.injEq] at hj hu
          subst hj; subst hu
          exact RelA.loose hr.1.1 hr.1.2 (fun b hb => ⟨hb, rfl⟩)
        | succ j => exact r3 j y u hj hu
      · cases h
  | .inr o :: rs, vs, used, xs, st, st3, E, hI, h, hr, hb, ha => by
    cases vs with
    | nil => cases hr
    | cons v vs =>
      simp only [orOf] at h
      split at h
      · rename_i st0 h0
        obtain ⟨hn, rfl⟩ := newBx_some h0
        split at h
        · rename_i xs' st1 h1
          simp only [Option.some.injEq, Prod.mk.injEq] at h
          obtain ⟨rfl, rfl⟩ := h
          obtain ⟨⟨m, fs, rfl, k2, k3⟩, k4⟩ := hr
          obtain ⟨i1, x1⟩ := hI.addBx hn (cs := [.objc o]) (m := m) (fs := fs) k2 (fun k hk => by
            obtain ⟨n1, n2, n3, n4⟩ := k3 k hk
            refine ⟨n3, Nat.le_trans hbase n1, n2, fun i ds hi hf => ?_, fun i A g r hA he hg => ?_⟩
            · rcases hb i ds k hi hf with hh | hh | hh
              · omega
              · exact n4 hh
              · subst hh; rw [hn] at hi; cases hi
            · obtain ⟨o', c', e'⟩ := r
              have := ha i A g o' c' e' hA he
              omega)
          have hlt : slot < st.bx.length := get_lt hn
          have hrel : RelC w (E.setBx slot m fs) ok (st.setBx slot [.objc o]) (.box slot 0) (.pointer (some ⟨m, 0, none⟩)) :=
            ⟨⟨_, by simp only [St.setBx]; rw [List.getElem?_set_self hlt]⟩, by simp [Env.setBx]⟩
          obtain ⟨E3, i3, x3, l3, r3⟩ := orOf_sound hbase i1 h1 k4 (fun b cs k hb' hf => by
            by_cases e : slot = b
            · exact .inr (.inr e.symm)
            · rcases set_some hb' hlt with ⟨e', _⟩ | ⟨_, hb''⟩
              · exact absurd e' e
              · exact hb b cs k hb'' ((Env.foot_ne e).1 hf)) ha
          refine ⟨E3, i3, x1.trans x3, by simp [l3], fun j y u hj hu => ?_⟩
          cases j with
          | zero =>
            simp only [List.getElem?_cons_zero, Option.some.injEq] at hj hu
            subst hj; subst hu
            exact RelC.ext x3 hrel
          | succ j => exact r3 j y u hj hu
        · cases h
      · cases h
theorem relV_res {xs : List PA} {vs : List Value} (hl : xs.length = vs.length) (h : ∀ (j : Nat) (x : PA) (v : Value), xs[j]? = some x → vs[j]? = some v → RelA w E ok st x v) : RelV w E ok st (resV xs) (oneOf vs) := by
  match xs, vs, hl, h with
  | [], [], _, _ => exact ⟨[], rfl, rfl, by simp⟩
  | [x], [v], _, h => exact h 0 x v rfl rfl
  | x :: x' :: xs, v :: v' :: vs, hl, h => exact ⟨_, rfl, hl, h⟩
  | [], _ :: _, hl, _ => simp at hl
  | [x], [], hl, _ => simp at hl
  | [x], _ :: _ :: _, hl, _ => simp at hl
  | x :: x' :: xs, [], hl, _ => simp at hl
  | x :: x' :: xs, [_], hl, _ => simp at hl
theorem goes_call {c : Call} {g : FuncId} {st1 : St} {pv : PV} (ho : o.op = .call c) (hc : c.callee = .value (.func g)) (hd : Does P g (c.args.toList.map a.eval).toArray w fun v w' => OpTo X st1 pv a v w') : Goes P X o st a w st1 pv := by
  intro next Q hnext
  have hrun : (execOp a.eval o).run P w = (callFunc g (c.args.toList.map a.eval).toArray).run P w := by
    have e1 : c.args.map a.eval = (c.args.toList.map a.eval).toArray := by rw [← Array.toList_map]
    simp only [execOp, ho, resolve, invoke, hc, Act.eval, Deferred.ofValue, Sem.run_bind, Sem.run_pure, Result.andThen_ok, e1, Array.append_empty, Array.empty_append]
  unfold Oper.wp
  rw [hrun]
  unfold Does at hd
  split at hd
  · rename_i v w' heq
    rw [heq]
    exact hnext v w' hd
  · rename_i g' args w1 heq
    rw [heq]
    refine Calls.mono hd (fun e w'' he => ?_)
    cases e with
    | returned v => exact hnext v w'' he
    | panicked ch => cases he
    | outgrown => cases he
  · cases hd
theorem Does.mono {g : FuncId} {args : Array Value} {Q Q' : Value → World → Prop} (h : Does P g args w Q) (hq : ∀ v w', Q v w' → Q' v w') : Does P g args w Q' := by
  unfold Does at h ⊢
  split at h
  · exact hq _ _ h
  · refine Calls.mono h (fun e w'' he => ?_)
    cases e with
    | returned v => exact hq v w'' he
    | panicked ch => cases he
    | outgrown => cases he
  · cases h
theorem objRun_sound {f : Option Ob → List PA → Option ObR} {g : FuncId} (hf : ObCallOk P g f) {c : Call} {slot : Nat} {as : List PA} {ob : Option (Nat × Ob)} {vs : List Value} (hI : Inv X E ok st a w) (ho : o.op = .call c) (hc : c.callee = .value (.func g))
    (hb : ∀ b o, ob = some (b, o) → st.bx[b]? = some (some [.objc o])) (hargs : (c.args.toList.map a.eval) = (ob.map fun x => Value.pointer (some ⟨E.bx x.1, 0, none⟩)).toList ++ vs) (hp : PlainAs w ok as vs)
    (h : objRun (f (ob.map (·.2)) as) slot (ob.map (·.1)) st K = some r) : ∃ v st1, K v st1 = some r ∧ ∀ st0, Goes P X o st0 a w st1 v := by
  unfold objRun at h
  split at h
  · rename_i rr hr
    split at h
    · rename_i hok
      split at h
      · rename_i st1 hbk
        split at h
        · rename_i xs st2 hor
          refine ⟨_, _, h, fun st0 => goes_call ho hc ?_⟩
          have hd := hf w ok (ob.map fun x => (x.2, E.bx x.1, E.fp x.1)) as vs rr hI.oklt (by rw [← hr]; cases ob <;> rfl) hok hp (fun o m fs ho => by
            cases ob with
            | none => cases ho
            | some q =>
              obtain ⟨b, o1⟩ := q
              simp only [Option.map_some, Option.some.injEq, Prod.mk.injEq] at ho
              obtain ⟨rfl, rfl, rfl⟩ := ho
              have hbx := hb b o1 rfl
              exact ⟨hI.bx b _ hbx, fun k hk => ⟨(hI.bxok b _ k hbx hk).1, (hI.bxok b _ k hbx hk).2.2⟩⟩)
          have e1 : (Option.map (fun x : Ob × Nat × List Nat => Value.pointer (some ⟨x.2.1, 0, none⟩)) (ob.map fun x => (x.2, E.bx x.1, E.fp x.1))).toList ++ vs = c.args.toList.map a.eval := by
            rw [hargs]; cases ob <;> rfl
          rw [e1] at hd
          refine hd.mono (fun v w' hpost => ?_)
          obtain ⟨ok', hp⟩ := hpost
          obtain ⟨fs', h1, us, rfl, hrs⟩ := hp.rs
          have arlt : ∀ i A g o c e, st.ar[i]? = some (some A) → E.ar i = some (g, o, c, e) → g < w.heap.size := fun i A g o c e hA he => hI.ar_lt hA he
          cases ob with
          | none =>
            cases hob : rr.ob with
            | some _ => rw [hob] at h1; cases h1
            | none =>
              rw [hob] at hbk
              simp only [backOb, Option.map_none, Option.some.injEq] at hbk
              subst hbk
              obtain ⟨i1, x1⟩ := hI.grownOk (ok' := ok') hp.size hp.os hp.tape hp.output (fun k hk => hp.frame k hk (by simp)) hp.okmono hp.oknew
              obtain ⟨E3, i3, x3, l3, r3⟩ := orOf_sound hI.size i1 hor hrs (fun b cs k hb hk => .inl (hI.foot_lt hb hk)) (fun i A g o c e hA he => arlt i A g o c e hA he)
              exact ⟨E3, ok', i3, relV_res l3 r3⟩
          | some q =>
            obtain ⟨b, o1⟩ := q
            have hbx := hb b o1 rfl
            cases hob : rr.ob with
            | none => rw [hob] at h1; cases h1
            | some o' =>
              rw [hob] at h1 hbk
              simp only [backOb, Option.map_some, Option.some.injEq] at hbk
              subst hbk
              obtain ⟨h1, h2⟩ := h1
              have hm : ¬ ok' (E.bx b) := fun hk => by
                have h3 := hI.bxok b _ (E.bx b) hbx (.inl rfl)
                rcases hp.oknew _ hk with h | h
                · exact h3.1 h
                · omega
              obtain ⟨i1, x1⟩ := hI.turnBx (cs' := [.objc o']) hbx (w' := w') (fs' := fs') (ok' := ok') hp.size hp.os hp.tape hp.output
                (fun k hk hf => hp.frame k hk (fun o m fs he => by
                  simp only [Option.map_some, Option.some.injEq, Prod.mk.injEq] at he
                  obtain ⟨_, rfl, rfl⟩ := he
                  exact ⟨fun e => hf (.inl e), fun e => hf (.inr e)⟩))
                (fun k hk => by
                  obtain ⟨k1, k2, k3⟩ := h2 k hk
                  exact ⟨k1.imp (fun h => .inr h) id, k2, k3⟩) hm hp.okmono hp.oknew (fun _ => h1)
              obtain ⟨E3, i3, x3, l3, r3⟩ := orOf_sound hI.size i1 hor hrs (fun i cs k hi hk => by
                by_cases e : b = i
                · subst e
                  rcases Env.foot_self.1 hk with hk | hk
                  · have := hI.bx_lt hbx; exact .inl (by omega)
                  · exact .inr (.inl hk)
                · rcases set_some hi (get_lt hbx) with ⟨e', _⟩ | ⟨_, hi'⟩
                  · exact absurd e' e
                  · exact .inl (hI.foot_lt hi' ((Env.foot_ne e).1 hk))) (fun i A g o c e hA he => arlt i A g o c e hA he)
              exact ⟨E3, ok', i3, relV_res l3 r3⟩
        · cases h
      · cases h
    · cases h
  · cases h
theorem s_obj {f : Option Ob → List PA → Option ObR} {g : FuncId} (hf : ObCallOk P g f) {c : Call} {slot : Nat} (hI : Inv X E ok st a w) (ho : o.op = .call c) (hc : c.callee = .value (.func g))
    (h : objK f slot c.args.toList st K = some r) : OpSound P X E ok o st a w K r := by
  have plain : (match plainArgs st c.args.toList with
    | some (as, st1) => objRun (f none as) slot none st1 K
    | none => none) = some r → OpSound P X E ok o st a w K r := by
    intro h
    split at h
    · rename_i as st1 hpa
      obtain ⟨ok1, i1, x1, f1, p1⟩ := plainArgs_sound hI hpa
      obtain ⟨v, st2, hK, hg⟩ := objRun_sound hf (ob := none) i1 ho hc (by simp) rfl p1 h
      exact ⟨v, st2, hK, hg st⟩
    · cases h
  unfold objK at h
  dsimp only at h
  split at h
  · rename_i x rest hxs
    split at h
    · rename_i b hx
      split at h
      · rename_i ob hob
        split at h
        · rename_i as st1 hpa
          obtain ⟨ok1, i1, x1, f1, p1⟩ := plainArgs_sound hI hpa
          have hbx := ob?_some hob
          have hr : RelC w E ok st (.box b 0) (a.eval x) := relC_of hI hx
          obtain ⟨v, st2, hK, hg⟩ := objRun_sound hf (ob := some (b, ob)) (vs := rest.map a.eval) i1 ho hc (fun b' o' he => by
            simp only [Option.some.injEq, Prod.mk.injEq] at he
            obtain ⟨rfl, rfl⟩ := he
            rw [f1.bx]; exact hbx) (by rw [hxs, List.map_cons, show a.eval x = _ from hr.2]; rfl) p1 h
          exact ⟨v, st2, hK, hg st⟩
        · cases h
      · cases h
    · exact plain h
  · exact plain h
end Go.Eng
end
