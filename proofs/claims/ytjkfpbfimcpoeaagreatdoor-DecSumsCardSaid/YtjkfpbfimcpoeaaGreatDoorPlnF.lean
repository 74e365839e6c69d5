/- The document's numbers, fractions, texts and decimals; the law of the sums holds of every input. -/
import Derived.Test.YtjkfpbfimcpoeaaGreatDoorPlnE
section
set_option linter.unusedSimpArgs false
set_option linter.unusedVariables false
namespace TryzE
open Go.Eng Go.Proofs Num KD
set_option linter.unusedVariables false
/-! ## The document's whole numbers and fractions, whole -/
theorem radd_z {a b : Nat} (ha : Zr a) (hb : Zr b) : Ev 113 sh113 [rA a, rA b] (R (a + b)) := by
  unfold Zr at ha hb; exact radd_spec a b (by omega) (by omega)
theorem rmul_z {a b : Nat} (ha : Zr a) (hb : Zr b) : Ev 105 sh105 [rA a, rA b] (R (a * b)) := by
  unfold Zr at ha hb; exact rmul_spec a b (by omega) (by omega)
theorem rcmp_z {a b : Nat} (ha : Zr a) (hb : Zr b) : Ev 127 sh127 [rA a, rA b] (sgn a b) := by
  unfold Zr at ha hb; exact ⟨_, rcmp_spec a b (by omega) (by omega)⟩
theorem rsub_z {a b : Nat} (hab : b ≤ a) (ha : Zr a) : Ev 150 sh150 [rA a, rA b] (R (a - b)) := by
  unfold Zr at ha; exact ⟨_, rsub_spec hab (by omega)⟩
theorem zneg_ev (x : Int) : Ev 55 sh55 [zA x] (zV (-x)) :=
  Ev.of (fun k => ref04Neg.eq k _ _) (.call (zof_ev x.natAbs (!decide (x < 0)) (-x) (by
    by_cases h : x < 0
    · rw [decide_eq_true h, if_neg (by decide)]; omega
    · rw [decide_eq_false h, if_pos (by rfl)]; omega)) <| .ret _) (fun F => rfl)
theorem zmul_ev {x y : Int} (hx : Zr x.natAbs) (hy : Zr y.natAbs) : Ev 56 sh56 [zA x, zA y] (zV (x * y)) :=
  Ev.of (fun k => ref04Mul.eq k _ _ _ _) (.call (rmul_z hx hy) <| .call (zof_ev _ (!decide (x < 0) == decide (y < 0)) (x * y) (by
    have e := Int.natAbs_mul x y
    rw [← e]
    by_cases h : x < 0
    · by_cases h' : y < 0
      · have := Int.mul_pos_of_neg_of_neg h h'
        rw [decide_eq_true h, decide_eq_true h', if_neg (by decide)]; omega
      · have := Int.mul_nonneg (a := -x) (b := y) (by omega) (by omega)
        rw [Int.neg_mul] at this
        rw [decide_eq_true h, decide_eq_false h', if_pos (by rfl)]; omega
    · by_cases h' : y < 0
      · have := Int.mul_nonneg (a := x) (b := -y) (by omega) (by omega)
        rw [Int.mul_neg] at this
        rw [decide_eq_false h, decide_eq_true h', if_pos (by rfl)]; omega
      · have := Int.mul_nonneg (a := x) (b := y) (by omega) (by omega)
        rw [decide_eq_false h, decide_eq_false h', if_neg (by decide)]; omega)) <| .ret _) (fun F => rfl)
theorem zadd_ev {x y : Int} (hx : Zr x.natAbs) (hy : Zr y.natAbs) : Ev 107 sh107 [zA x, zA y] (zV (x + y)) := by
  by_cases hs : (decide (x < 0) == decide (y < 0)) = true
  · have hs' : (x < 0) = (y < 0) := by simpa using hs
    exact Ev.of (fun k => ref04Add.eq k _ _ _ _) (.pos hs <| .call (radd_z hx hy) <| .call (zof_ev _ (decide (x < 0)) (x + y) (by
      by_cases h : x < 0
      · have h' : y < 0 := hs' ▸ h
        rw [decide_eq_true h, if_pos rfl]; omega
      · have h' : ¬ y < 0 := hs' ▸ h
        rw [decide_eq_false h, if_neg (by decide)]; omega)) <| .ret _) (fun F => rfl)
  · have hs' : ¬ (x < 0 ↔ y < 0) := by simpa using hs
    by_cases hl : y.natAbs ≤ x.natAbs
    · exact Ev.of (fun k => ref04Add.eq k _ _ _ _) (.neg hs <| .call (rcmp_z hx hy) <| .pos (by unfold sgn; rw [if_neg (by omega)]; split <;> rfl) <| .call (rsub_z hl hx) <| .call (zof_ev _ (decide (x < 0)) (x + y) (by
        by_cases h : x < 0
        · rw [decide_eq_true h, if_pos rfl]; omega
        · rw [decide_eq_false h, if_neg (by decide)]; omega)) <| .ret _) (fun F => rfl)
    · exact Ev.of (fun k => ref04Add.eq k _ _ _ _) (.neg hs <| .call (rcmp_z hx hy) <| .neg (by unfold sgn; rw [if_pos (by omega)]; decide) <| .call (rsub_z (by omega) hy) <| .call (zof_ev _ (decide (y < 0)) (x + y) (by
        by_cases h : y < 0
        · rw [decide_eq_true h, if_pos rfl]; omega
        · rw [decide_eq_false h, if_neg (by decide)]; omega)) <| .ret _) (fun F => rfl)
theorem zsub_ev {x y : Int} (hx : Zr x.natAbs) (hy : Zr y.natAbs) : Ev 151 sh151 [zA x, zA y] (zV (x - y)) :=
  Ev.of (fun k => ref04Sub.eq k _ _ _ _) (.call (zneg_ev y) <| .call (zadd_ev (y := -y) hx (by rw [Int.natAbs_neg]; exact hy)) <| .ret _) (fun F => rfl)
theorem zsign_ev (x : Int) : Ev 152 sh152 [zA x] (sgZ x) := by
  have hl : (R x.natAbs).length = 0 ↔ x = 0 := by rw [List.length_eq_zero_iff, R_nil]; omega
  unfold sgZ
  by_cases h : x = 0
  · rw [if_pos h]
    exact Ev.of (fun k => ref04Sign.eq k _ _) (.pos (by rw [beq_iff_eq]; have := hl.2 h; omega) <| .ret _) (fun F => rfl)
  · rw [if_neg h]
    have hn : ¬ (((R x.natAbs).length : Int) == 0) = true := by rw [beq_iff_eq]; have := mt hl.1 h; omega
    by_cases h1 : x < 0
    · rw [if_pos h1]
      exact Ev.of (fun k => ref04Sign.eq k _ _) (.neg hn <| .pos (decide_eq_true h1) <| .ret _) (fun F => rfl)
    · rw [if_neg h1]
      exact Ev.of (fun k => ref04Sign.eq k _ _) (.neg hn <| .neg (by rw [decide_eq_true_eq]; exact h1) <| .ret _) (fun F => rfl)
theorem zcmp_ev {x y : Int} (hx : Zr x.natAbs) (hy : Zr y.natAbs) : Ev 108 sh108 [zA x, zA y] (sgZ (x - y)) :=
  Ev.of (fun k => ref04Cmp.eq k _ _ _ _) (.call (zsub_ev hx hy) <| .call (zsign_ev (x - y)) <| .ret _) (fun F => rfl)
theorem zprint_ev {x : Int} {b : Nat} (h : x.natAbs < 2 ^ b) (hb : b ≤ 1000000) (s : Zr x.natAbs) : Ev 16 sh16 [zA x] (sdec x) := by
  have z := szText h hb
  unfold Zr at s
  unfold sdec
  by_cases hx : x < 0
  · rw [if_pos hx]
    exact Ev.of (fun k => ref04Print.eq k _ _) (.call (rprint_ev (by omega)) <| .pos (decide_eq_true hx) <| .pos (by omega) <| .ret _) (fun F => rfl)
  · rw [if_neg hx]
    exact Ev.of (fun k => ref04Print.eq k _ _) (.call (rprint_ev (by omega)) <| .neg (by rw [decide_eq_true_eq]; exact hx) <| .ret _) (fun F => rfl)
theorem zcross_ev {n m : Int} {d e : Nat} (hn : Zr n.natAbs) (he : Zr e) : Ev 90 sh90 [zfA n d, zfA m e] (zV (n * e)) :=
  Ev.of (fun k => ref05Cross.eq k _ _ _ _ _ _) (.call (zof_ev e false (e : Int) (by rw [if_neg (by decide)])) <| .call (zmul_ev (y := (e : Int)) hn (by rw [Int.natAbs_natCast]; exact he)) <| .ret _) (fun F => rfl)
theorem zfcmp_ev {n m : Int} {d e : Nat} (hn : Zr n.natAbs) (hm : Zr m.natAbs) (hd : Zr d) (he : Zr e) (h1 : Zr (n * e).natAbs) (h2 : Zr (m * d).natAbs) : Ev 58 sh58 [zfA n d, zfA m e] (sgZ (n * e - m * d)) :=
  Ev.of (fun k => ref05Cmp.eq k _ _ _ _ _ _) (.call (zcross_ev hn he) <| .call (zcross_ev hm hd) <| .call (zcmp_ev h1 h2) <| .ret _) (fun F => rfl)
/-- A fraction's text. -/
def ftx (n : Int) (d : Nat) : ByteArray := if d = 1 then sdec n else sdec n ++ (⟨#[(47 : UInt8)]⟩ : ByteArray) ++ dec d
theorem sdec_size {x : Int} {b : Nat} (h : x.natAbs < 2 ^ b) (hb : b ≤ 1000000) : (sdec x).size ≤ 1000002 := by
  have z := szText h hb
  have e1 : (⟨#[(45 : UInt8)]⟩ : ByteArray).size = 1 := rfl
  unfold sdec
  split
  · rw [ByteArray.size_append, e1]; omega
  · omega
theorem fprint_ev {n : Int} {d b c : Nat} (hd : 0 < d) (h : n.natAbs < 2 ^ b) (hb : b ≤ 1000000) (hdc : d < 2 ^ c) (hc : c ≤ 1000000) : Ev 19 sh19 [fA n d] (ftx n d) := by
  have z1 := sdec_size h hb
  have z2 := szText hdc hc
  have e1 : (⟨#[(47 : UInt8)]⟩ : ByteArray).size = 1 := rfl
  unfold ftx
  by_cases h1 : d = 1
  · rw [if_pos h1]
    exact Ev.of (fun k => fracFracPrint.eq k _ _ _) (.call (zero_ev (d - 1)) <| .pos (by rw [decide_eq_true_eq]; omega) <| .call (wprint_ev h hb) <| .ret _) (fun F => rfl)
  · rw [if_neg h1]
    exact Ev.of (fun k => fracFracPrint.eq k _ _ _) (.call (zero_ev (d - 1)) <| .neg (by rw [decide_eq_true_eq]; omega) <| .call (wprint_ev h hb) <| .pos (by omega) <| .call (den_ev hd (Sz.of hdc hc)) <| .call (print_ev (Sz.of hdc hc)) <| .pos (by rw [ByteArray.size_append, e1]; omega) <| .ret _) (fun F => rfl)
theorem zfprint_ev {n : Int} {d b c : Nat} (hd : 0 < d) (h : n.natAbs < 2 ^ b) (hb : b ≤ 1000000) (hdc : d < 2 ^ c) (hc : c ≤ 1000000) (zn : Zr n.natAbs) (zd : Zr d) : Ev 20 sh20 [zfA n d] (ftx n d) := by
  have z1 := sdec_size h hb
  have z2 := szText hdc hc
  have e1 : (⟨#[(47 : UInt8)]⟩ : ByteArray).size = 1 := rfl
  have pd : Ev 71 sh71 [rA d] (dec d) := by unfold Zr at zd; exact rprint_ev (by omega)
  have p1 := zprint_ev h hb zn
  unfold ftx
  by_cases h1 : d = 1
  · subst h1
    rw [if_pos rfl]
    exact Ev.of (fun k => ref05Print.eq k _ _ _) (.call p1 <| .pos (by rw [R_one]; decide) <| .pos (by rw [R_one]; decide) <| .pos (by rw [R_one]; decide) <| .ret _) (fun F => rfl)
  · rw [if_neg h1]
    have fin : Et (fun k => ref05Print.j4 k (sdec n) (R n.natAbs) (decide (n < 0)) (R d)) ⟨[(.v (.c (.str (sdec n ++ (⟨#[(47 : UInt8)]⟩ : ByteArray) ++ dec d))))], []⟩ :=
      .to (fun k => ref05Print.j4_eq k _ _ _ _) <| .call pd <| .pos (by omega) <| .pos (by rw [ByteArray.size_append, e1]; omega) <| .ret _
    by_cases hl : (R d).length = 1
    · have hg : (R d).getD 0 0 = ((d % 10000 : Nat) : Int) := by rw [R_pos hd]; rfl
      have hlt := R_lt d
      rw [hl, Nat.pow_one] at hlt
      exact Ev.of (r := ⟨[(.v (.c (.str (sdec n ++ (⟨#[(47 : UInt8)]⟩ : ByteArray) ++ dec d))))], []⟩) (fun k => ref05Print.eq k _ _ _) (.call p1 <| .pos (by rw [beq_iff_eq]; omega) <| .pos (by omega) <| .neg (by rw [beq_iff_eq, hg]; omega) <| fin) (fun F => rfl)
    · exact Ev.of (r := ⟨[(.v (.c (.str (sdec n ++ (⟨#[(47 : UInt8)]⟩ : ByteArray) ++ dec d))))], []⟩) (fun k => ref05Print.eq k _ _ _) (.call p1 <| .neg (by rw [beq_iff_eq]; omega) <| fin) (fun F => rfl)
end TryzE
end
section
set_option linter.unusedSimpArgs false
set_option linter.unusedVariables false
namespace TryzE
open Go.Eng Go.Proofs Num KD
set_option linter.unusedVariables false
/-! ## The document's text of a decimal -/
abbrev zdA (c s : Int) : AA := .v (.agg [.sl (.int .i64) (R c.natAbs), .bool (decide (c < 0)), .int .i64 s])
theorem zdprint_tail {c : Int} {s : Nat} (hs : s ≤ 64) (k n : Nat) (t : ByteArray) (ht : t.size ≤ 2000000) (hst : s < t.size) (hu : dtx c s = if c < 0 then (⟨#[(45 : UInt8)]⟩ : ByteArray) ++ dtail s t else dtail s t) :
    ref07Print.l0 k (n + 1) t (R c.natAbs) (decide (c < 0)) (s : Int) = some ⟨[(.v (.c (.str (dtx c s))))], []⟩ := by
  have us : (dtail s t).size ≤ 4000010 := by
    unfold dtail
    split
    · have e1 : (⟨#[(46 : UInt8)]⟩ : ByteArray).size = 1 := rfl
      rw [ByteArray.size_append, ByteArray.size_append, e1, ByteArray.size_extract, ByteArray.size_extract]
      omega
    · omega
  have fin : ∀ u : ByteArray, u = dtail s t → ref07Print.j6 k u (R c.natAbs) (decide (c < 0)) (s : Int) = some ⟨[(.v (.c (.str (dtx c s))))], []⟩ := by
    intro u he
    rw [ref07Print.j6_eq, hu, ← he]
    rw [← he] at us
    by_cases hc : c < 0
    · rw [iteA_eq, if_pos (decide_eq_true hc), iteA_eq, if_pos (by omega), if_pos hc]
    · rw [iteA_eq, if_neg (by rw [decide_eq_true_eq]; exact hc), if_neg hc]
  have w : Go.IntKind.i64.wrap ((t.size : Int) - (s : Int)) = ((t.size - s : Nat) : Int) := by rw [wi (by omega) (by omega)]; omega
  rw [ref07Print.l0_succ, w]
  simp (implicitDefEqProofs := false) only [iteA_eq, Int.toNat_natCast]
  rw [if_neg (by rw [decide_eq_true_eq]; omega)]
  have e1 : (⟨#[(46 : UInt8)]⟩ : ByteArray).size = 1 := rfl
  have hx1 : (t.extract 0 (t.size - s)).size ≤ t.size := by rw [ByteArray.size_extract]; omega
  have hx2 : (t.extract (t.size - s) t.size).size ≤ t.size := by rw [ByteArray.size_extract]; omega
  by_cases hs0 : 0 < s
  · rw [if_pos (by rw [decide_eq_true_eq]; omega), if_pos (by omega), if_pos (by omega), if_pos (by omega), if_pos (by rw [ByteArray.size_append, e1]; omega)]
    refine fin _ ?_
    unfold dtail
    rw [if_pos hs0]
  · rw [if_neg (by rw [decide_eq_true_eq]; omega)]
    refine fin _ ?_
    unfold dtail
    rw [if_neg hs0]
theorem zdprint_loop {c : Int} {s : Nat} (hs : s ≤ 64) (hd : (dec c.natAbs).size ≤ 1000001) : ∀ (r j : Nat), j + r = s + 1 - (dec c.natAbs).size → ∀ k n, r + 1 ≤ n →
    ref07Print.l0 k n (repS j ⟨#[48]⟩ ++ dec c.natAbs) (R c.natAbs) (decide (c < 0)) (s : Int) = some ⟨[(.v (.c (.str (dtx c s))))], []⟩ := by
  intro r
  induction r with
  | zero =>
    intro j hj k n hn
    obtain ⟨n, rfl, hn'⟩ := succOf hn
    have hsz : (repS j ⟨#[48]⟩ ++ dec c.natAbs).size = j + (dec c.natAbs).size := by rw [ByteArray.size_append, repS_size]
    refine zdprint_tail hs k n _ (by omega) (by omega) ?_
    have : j = s + 1 - (dec c.natAbs).size := by omega
    subst this
    rfl
  | succ r ih =>
    intro j hj k n hn
    obtain ⟨n, rfl, hn'⟩ := succOf hn
    have hsz : (repS j ⟨#[48]⟩ ++ dec c.natAbs).size = j + (dec c.natAbs).size := by rw [ByteArray.size_append, repS_size]
    rw [ref07Print.l0_succ, iteA_eq, if_pos (by rw [decide_eq_true_eq]; omega), iteA_eq, if_pos (by omega)]
    have e : (⟨#[(48 : UInt8)]⟩ : ByteArray) ++ (repS j ⟨#[48]⟩ ++ dec c.natAbs) = repS (j + 1) ⟨#[48]⟩ ++ dec c.natAbs := by
      rw [repS, ByteArray.append_assoc]
    rw [e]
    exact ih (j + 1) (by omega) k n hn'
theorem zdprint_ev {c : Int} {b s : Nat} (h : c.natAbs < 2 ^ b) (hb : b ≤ 1000000) (hs : s ≤ 64) (zc : Zr c.natAbs) : Ev 41 sh41 [zdA c s] (dtx c s) := by
  have z := szText h hb
  have pd : Ev 71 sh71 [rA c.natAbs] (dec c.natAbs) := by unfold Zr at zc; exact rprint_ev (by omega)
  have e0 : repS 0 ⟨#[48]⟩ ++ dec c.natAbs = dec c.natAbs := ByteArray.empty_append
  refine Ev.of (r := ⟨[(.v (.c (.str (dtx c s))))], []⟩) (fun k => ref07Print.eq k _ _ _) (.call pd ⟨100, fun k hk => ?_⟩) (fun F => rfl)
  have hl := zdprint_loop (c := c) hs z (s + 1 - (dec c.natAbs).size) 0 (by omega) k k (by omega)
  rw [e0] at hl
  exact hl
end TryzE
end
section
set_option linter.unusedSimpArgs false
set_option linter.unusedVariables false
namespace TryzE
open Go.Eng Go.Proofs Num KD
set_option linter.unusedVariables false
/-! ## The document reads digits -/
theorem read_in {E : List Int} (hE : Dg 10 E) {N m top : Nat} (hN : E.length = N) (hNl : N < 1000000) (hm : 4 * m < N) (ht : top = min (4 * m + 4) N) (out : List Int) (ho : out.length < 1000000) : ∀ (r : Nat) (d : Int), 4 * m + r ≤ top → d = val 10 ((E.take top).drop (4 * m + r)) → ∀ k n n0, r + 1 ≤ n →
    ref01Read.l1 k n n0 (bytesS (asc E).reverse) ((N : Int) - 4 * (m : Int)) d ((N : Int) - ((4 * m + r : Nat) : Int)) out = ref01Read.l0 k n0 (bytesS (asc E).reverse) ((N : Int) - 4 * ((m + 1 : Nat) : Int)) (out ++ [val 10 ((E.take top).drop (4 * m))]) := by
  intro r
  induction r with
  | zero =>
    intro d hr hd k n n0 hn
    obtain ⟨n, rfl, hn'⟩ := succOf hn
    rw [ref01Read.l1_succ]
    simp (implicitDefEqProofs := false) only [iteA_eq, List.length_singleton]
    rw [if_neg (by rw [decide_eq_true_eq]; omega), if_pos (by omega), hd, Nat.add_zero, wi (by omega) (by omega), show (N : Int) - 4 * (m : Int) - 4 = (N : Int) - 4 * ((m + 1 : Nat) : Int) by omega]
  | succ r ih =>
    intro d hr hd k n n0 hn
    obtain ⟨n, rfl, hn'⟩ := succOf hn
    have hj : 4 * m + r < (E.take top).length := by rw [List.length_take]; omega
    have hx : 0 ≤ E.getD (4 * m + r) 0 ∧ E.getD (4 * m + r) 0 < 10 := hE.getD (by decide) (4 * m + r)
    have hel : E.getD (4 * m + r) 0 = E[4 * m + r]'(by omega) := by simp [List.getD_eq_getElem?_getD, List.getElem?_eq_getElem (show 4 * m + r < E.length by omega)]
    have hg : (asc E).reverse[N - (4 * m + (r + 1))]? = some (48 + E.getD (4 * m + r) 0) := by
      have hla : (asc E).length = N := by unfold asc; simp [hN]
      rw [List.getElem?_reverse (by omega), hla, show N - 1 - (N - (4 * m + (r + 1))) = 4 * m + r by omega]
      unfold asc
      rw [List.getElem?_map, List.getElem?_eq_getElem (show 4 * m + r < E.length by omega), hel]
      rfl
    have hsb : sbyte (bytesS (asc E).reverse) ((N - (4 * m + (r + 1)) : Nat) : Int) = 48 + E.getD (4 * m + r) 0 := sbyte_bytesS hg (by omega) (by omega)
    have hi : (N : Int) - ((4 * m + (r + 1) : Nat) : Int) = ((N - (4 * m + (r + 1)) : Nat) : Int) := by omega
    have hsz : (bytesS (asc E).reverse).size = N := by rw [bytesS_size]; unfold asc; simp [hN]
    have hv : val 10 ((E.take top).drop (4 * m + r)) = E.getD (4 * m + r) 0 + 10 * d := by
      rw [List.drop_eq_getElem_cons hj, val, List.getElem_take, ← hel, hd]
      rfl
    have hd0 : 0 ≤ d := by rw [hd]; exact val_nonneg (by decide) ((hE.take top).drop _)
    have hd1 : d < 10 ^ 4 := by
      rw [hd]
      have h1 := val_lt (B := 10) (by decide) ((hE.take top).drop (4 * m + (r + 1)))
      refine Int.lt_of_lt_of_le h1 (pow_mono (by decide) ?_)
      rw [List.length_drop, List.length_take]; omega
    have hd1 : d < 10000 := hd1
    rw [ref01Read.l1_succ, hi, hsb]
    simp (implicitDefEqProofs := false) only [iteA_eq]
    rw [if_pos (by rw [decide_eq_true_eq]; omega), if_pos (by rw [hsz]; omega), wi (x := (10 : Int) * d) (by omega) (by omega), wi (x := 48 + E.getD (4 * m + r) 0) (by omega) (by omega), wi (x := (10 : Int) * d + (48 + E.getD (4 * m + r) 0)) (by omega) (by omega), wi (x := (10 : Int) * d + (48 + E.getD (4 * m + r) 0) - 48) (by omega) (by omega), wi (x := ((N - (4 * m + (r + 1)) : Nat) : Int) + 1) (by omega) (by omega),
      show ((N - (4 * m + (r + 1)) : Nat) : Int) + 1 = (N : Int) - ((4 * m + r : Nat) : Int) by omega]
    exact ih _ (by omega) (by rw [hv]; omega) k n n0 hn'
theorem read_loop {E : List Int} (hE : Dg 10 E) {N : Nat} (hN : E.length = N) (hNl : N < 1000000) : ∀ (r m : Nat) (out : List Int), N ≤ 4 * (m + r) → m ≤ N → out.length = m → Dg 10000 out → val 10000 out = val 10 (E.take (4 * m)) → ∀ k n, N + 20 ≤ k → r + 1 ≤ n →
    ∃ out', out'.length ≤ N + 1 ∧ Dg 10000 out' ∧ val 10000 out' = val 10 E ∧ ref01Read.l0 k n (bytesS (asc E).reverse) ((N : Int) - 4 * (m : Int)) out = callT (C k 143 [(.v (.c (.sl (.int .i64) out')))]) sh143 fun (y1 : List Int) => (some ⟨[(.v (.c (.sl (.int .i64) y1)))], []⟩) := by
  intro r
  induction r with
  | zero =>
    intro m out hr hm ho hdo hv k n hk hn
    obtain ⟨n, rfl, hn'⟩ := succOf hn
    rw [List.take_of_length_le (by omega)] at hv
    refine ⟨out, by omega, hdo, hv, ?_⟩
    rw [ref01Read.l0_succ, iteA_eq, if_neg (by rw [decide_eq_true_eq]; omega)]
  | succ r ih =>
    intro m out hr hm ho hdo hv k n hk hn
    obtain ⟨n, rfl, hn'⟩ := succOf hn
    by_cases hmn : 4 * m < N
    · obtain ⟨top, ht⟩ : ∃ top, top = min (4 * m + 4) N := ⟨_, rfl⟩
      obtain ⟨q, hq⟩ : ∃ q, top = 4 * m + q := ⟨top - 4 * m, by omega⟩
      have hin := read_in hE hN hNl hmn ht out (by omega) q 0 (by omega) (by rw [List.drop_of_length_le (by rw [List.length_take]; omega)]; rfl) k k n (by omega)
      have hx0 := val_nonneg (B := 10) (by decide) ((hE.take top).drop (4 * m))
      have hx1 : val 10 ((E.take top).drop (4 * m)) < 10 ^ 4 := Int.lt_of_lt_of_le (val_lt (B := 10) (by decide) ((hE.take top).drop (4 * m))) (pow_mono (by decide) (by rw [List.length_drop, List.length_take]; omega))
      have hx1 : val 10 ((E.take top).drop (4 * m)) < 10000 := hx1
      have hsp := val_take_drop (B := 10) (E.take top) (4 * m) (by rw [List.length_take]; omega)
      rw [List.take_take, Nat.min_eq_left (by omega)] at hsp
      have htt : E.take (4 * (m + 1)) = E.take top := by
        by_cases h : 4 * m + 4 ≤ N
        · rw [ht, Nat.min_eq_left h]; rfl
        · rw [ht, Nat.min_eq_right (by omega), List.take_of_length_le (by omega), List.take_of_length_le (by omega)]
      have e4 : (10 : Int) ^ (4 * m) = 10000 ^ m := by rw [Int.pow_mul]; rfl
      obtain ⟨out', r1, r2, r3, r4⟩ := ih (m + 1) (out ++ [val 10 ((E.take top).drop (4 * m))]) (by omega) (by omega) (by rw [List.length_append, List.length_singleton, ho]) (hdo.append (Dg.cons hx0 hx1 Dg.nil)) (by
        rw [val_snoc, hv, ho, htt, hsp, e4]) k n hk hn'
      refine ⟨out', r1, r2, r3, ?_⟩
      have hmax : Go.Eng.maxI (0 : Int) (Go.IntKind.i64.wrap ((N : Int) - 4 * (m : Int) - 4)) = (N : Int) - ((4 * m + q : Nat) : Int) := by
        rw [wi (by omega) (by omega)]
        unfold Go.Eng.maxI
        split <;> omega
      rw [ref01Read.l0_succ, iteA_eq, if_pos (by rw [decide_eq_true_eq]; omega), hmax, hin]
      exact r4
    · rw [List.take_of_length_le (by omega)] at hv
      refine ⟨out, by omega, hdo, hv, ?_⟩
      rw [ref01Read.l0_succ, iteA_eq, if_neg (by rw [decide_eq_true_eq]; omega)]
theorem read_ev {E : List Int} (hE : Dg 10 E) {n : Nat} (hv : val 10 E = n) (hl : E.length < 1000000) : Ev 96 sh96 [sA (bytesS (asc E).reverse)] (R n) := by
  refine ⟨E.length + 100, fun k hk F => ?_⟩
  obtain ⟨k, rfl, hk'⟩ := succOf (k := k) (n := E.length + 99) (by omega)
  obtain ⟨out', r1, r2, r3, r4⟩ := read_loop hE rfl hl E.length 0 [] (by omega) (by omega) rfl Dg.nil rfl k k (by omega) (by omega)
  have hsz : (bytesS (asc E).reverse).size = E.length := by rw [bytesS_size]; unfold asc; simp
  have e0 : (E.length : Int) - 4 * ((0 : Nat) : Int) = (E.length : Int) := by omega
  rw [e0] at r4
  rw [ref01Read.eq, hsz, r4, trim_spec out' n r2 (by omega) (by omega) k (by omega)]
  rfl
end TryzE
end
section
set_option linter.unusedSimpArgs false
set_option linter.unusedVariables false
namespace TryzE
open Go.Eng Go.Proofs Num KD
set_option linter.unusedVariables false
/-! ## The document's ten, and decimals -/
theorem ten_step (j : Nat) : bytesS ((49 : Int) :: List.replicate j 48) ++ (⟨#[(48 : UInt8)]⟩ : ByteArray) = bytesS ((49 : Int) :: List.replicate (j + 1) 48) := by
  rw [List.replicate_succ', ← List.cons_append, bytesS_append]
  rfl
theorem zten_loop {s : Nat} (hs : s ≤ 4096) : ∀ (r j : Nat), j + r = s → ∀ k n, r + 1 ≤ n → ref03Ten.l0 k n (s : Int) (bytesS ((49 : Int) :: List.replicate j 48)) (j : Int) = callT (C k 96 [sA (bytesS ((49 : Int) :: List.replicate s 48))]) sh96 fun (y1 : List Int) => (some ⟨[(.v (.c (.sl (.int .i64) y1)))], []⟩) := by
  intro r
  induction r with
  | zero =>
    intro j hj k n hn
    obtain ⟨n, rfl, hn'⟩ := succOf hn
    have : j = s := by omega
    subst this
    rw [ref03Ten.l0_succ, iteA_eq, if_neg (by simp)]
  | succ r ih =>
    intro j hj k n hn
    obtain ⟨n, rfl, hn'⟩ := succOf hn
    rw [ref03Ten.l0_succ, iteA_eq, if_pos (by rw [decide_eq_true_eq]; omega), iteA_eq, if_pos (by rw [bytesS_size]; simp; omega), ten_step, wi (by omega) (by omega)]
    exact ih (j + 1) (by omega) k n hn'
theorem zten_ev {s : Nat} (hs : s ≤ 4096) : Ev 88 sh88 [iA (s : Int)] (R (10 ^ s)) := by
  have hE : Dg 10 (List.replicate s (0 : Int) ++ [1]) := (Dg.replicate (by decide) _).append (Dg.cons (by decide) (by decide) Dg.nil)
  have hv : val 10 (List.replicate s (0 : Int) ++ [1]) = ((10 ^ s : Nat) : Int) := by
    rw [val_snoc, val_replicate, List.length_replicate, Int.natCast_pow, Int.zero_add, Int.mul_one]
    rfl
  have ha : (asc (List.replicate s (0 : Int) ++ [1])).reverse = (49 : Int) :: List.replicate s 48 := by
    unfold asc
    rw [List.map_append, List.map_replicate, List.reverse_append, List.reverse_replicate]
    rfl
  have hr := read_ev hE hv (by simp; omega)
  rw [ha] at hr
  obtain ⟨K, hK⟩ := hr
  refine Ev.of (g := fun k => ref03Ten.l0 k k (s : Int) (⟨#[(49 : UInt8)]⟩ : ByteArray) 0) (r := ⟨[(.v (.c (.sl (.int .i64) (R (10 ^ s)))))], []⟩) (fun k => ref03Ten.eq k _) ⟨K + s + 1, fun k hk => ?_⟩ (fun F => rfl)
  have h := zten_loop hs s 0 (by omega) k k (by omega)
  exact h.trans (hK k (by omega) _)
theorem zr10 {s : Nat} (hs : s ≤ 4096) : Zr (10 ^ s) := by
  refine Zr.of (b := s + 1) ?_ (by omega)
  have h1 : 10 ^ s ≤ 10000 ^ s := Nat.pow_le_pow_left (by decide) s
  exact Nat.lt_of_le_of_lt h1 (Nat.pow_lt_pow_right (by decide) (by omega))
theorem zat_ev {c : Int} {s t : Int} (u : Nat) (hu : Go.IntKind.i64.wrap (t - s) = u) (hu' : u ≤ 4096) (hc : Zr c.natAbs) : Ev 106 sh106 [zdA c s, iA t] (zV (c * ((10 ^ u : Nat) : Int))) :=
  Ev.of (fun k => ref07At.eq k _ _ _ _) (.call (hu ▸ zten_ev hu') <| .call (zof_ev (10 ^ u) false ((10 ^ u : Nat) : Int) (by rw [if_neg (by decide)])) <| .call (zmul_ev (y := ((10 ^ u : Nat) : Int)) hc (by rw [Int.natAbs_natCast]; exact zr10 hu')) <| .ret _) (fun F => rfl)
theorem zfrac_ev {c : Int} {s : Nat} (hs : s ≤ 4096) (hc : Zr c.natAbs) : Ev 43 sh43 [zdA c s] (zF (rdN c (10 ^ s)) (rdD c (10 ^ s))) :=
  Ev.of (fun k => ref07Frac.eq k _ _ _) (.call (zten_ev hs) <| .call (zmake_ev (Nat.pow_pos (by decide)) hc (zr10 hs)) <| .ret _) (fun F => rfl)
def zdV (c s : Int) : List Int × (Bool × Int) := (R c.natAbs, decide (c < 0), s)
theorem zdadd_ev {c d : Int} {s t : Nat} (hs : s ≤ 64) (ht : t ≤ 64) (hc : Zr c.natAbs) (hd : Zr d.natAbs) (h1 : ∀ u : Nat, u ≤ 64 → Zr (c * ((10 ^ u : Nat) : Int)).natAbs) (h2 : ∀ u : Nat, u ≤ 64 → Zr (d * ((10 ^ u : Nat) : Int)).natAbs) :
    Ev 57 sh57 [zdA c s, zdA d t] (zdV (c * ((10 ^ (max s t - s) : Nat) : Int) + d * ((10 ^ (max s t - t) : Nat) : Int)) (max s t : Nat)) := by
  have hm : Go.Eng.maxI (s : Int) (t : Int) = ((max s t : Nat) : Int) := by
    unfold Go.Eng.maxI
    split <;> omega
  refine Ev.of (fun k => ref07Add.eq k _ _ _ _ _ _) (.call (zat_ev (max s t - s) (by rw [hm, wi (by omega) (by omega)]; omega) (by omega) hc) <| .call (zat_ev (max s t - t) (by rw [hm, wi (by omega) (by omega)]; omega) (by omega) hd) <|
    .call (zadd_ev (h1 _ (by omega)) (h2 _ (by omega))) <| .ret _) (fun F => ?_)
  rw [hm]; rfl
end TryzE
end
section
set_option linter.unusedSimpArgs false
set_option linter.unusedVariables false
namespace TryzE
open Go.Eng Go.Proofs Num KD
set_option linter.unusedVariables false
/-! ## DecSums -/
theorem sgZ_mul {k x : Int} (hk : 0 < k) : sgZ (k * x) = sgZ x := by
  unfold sgZ
  by_cases h0 : x = 0
  · subst h0; rw [Int.mul_zero]
  · by_cases h1 : x < 0
    · have := Int.mul_neg_of_pos_of_neg hk h1
      rw [if_neg (by omega), if_pos this, if_neg h0, if_pos h1]
    · have := Int.mul_pos hk (show 0 < x by omega)
      rw [if_neg (by omega), if_neg (by omega), if_neg h0, if_neg h1]
theorem cross_eq (c d : Int) (s t : Nat) : sgZ (c * ((10 ^ (max s t - s) : Nat) : Int) - d * ((10 ^ (max s t - t) : Nat) : Int)) = sgZ (rdN c (10 ^ s) * ((rdD d (10 ^ t) : Nat) : Int) - rdN d (10 ^ t) * ((rdD c (10 ^ s) : Nat) : Int)) := by
  have ps : 0 < 10 ^ s := Nat.pow_pos (by decide)
  have pt : 0 < 10 ^ t := Nat.pow_pos (by decide)
  have g1 : (0 : Int) < (Nat.gcd (10 ^ s) c.natAbs : Int) := by exact_mod_cast gcd_pos ps
  have g2 : (0 : Int) < (Nat.gcd (10 ^ t) d.natAbs : Int) := by exact_mod_cast gcd_pos pt
  have n1 := rdN_mul c (10 ^ s)
  have n2 := rdN_mul d (10 ^ t)
  have d1 : (Nat.gcd (10 ^ s) c.natAbs : Int) * ((rdD c (10 ^ s) : Nat) : Int) = ((10 ^ s : Nat) : Int) := by rw [← Int.natCast_mul, rdD_mul]
  have d2 : (Nat.gcd (10 ^ t) d.natAbs : Int) * ((rdD d (10 ^ t) : Nat) : Int) = ((10 ^ t : Nat) : Int) := by rw [← Int.natCast_mul, rdD_mul]
  have pk : (0 : Int) < ((10 ^ (s + t - max s t) : Nat) : Int) := by exact_mod_cast Nat.pow_pos (n := s + t - max s t) (show 0 < 10 by decide)
  have e1 : ((10 ^ (s + t - max s t) : Nat) : Int) * ((10 ^ (max s t - s) : Nat) : Int) = ((10 ^ t : Nat) : Int) := by
    rw [← Int.natCast_mul, ← Nat.pow_add, show s + t - max s t + (max s t - s) = t by omega]
  have e2 : ((10 ^ (s + t - max s t) : Nat) : Int) * ((10 ^ (max s t - t) : Nat) : Int) = ((10 ^ s : Nat) : Int) := by
    rw [← Int.natCast_mul, ← Nat.pow_add, show s + t - max s t + (max s t - t) = s by omega]
  rw [← sgZ_mul pk, ← sgZ_mul (x := rdN c (10 ^ s) * _ - _) (Int.mul_pos g1 g2)]
  congr 1
  generalize ((10 ^ (s + t - max s t) : Nat) : Int) = K at *
  generalize ((10 ^ (max s t - s) : Nat) : Int) = A at *
  generalize ((10 ^ (max s t - t) : Nat) : Int) = B at *
  generalize ((10 ^ s : Nat) : Int) = P at *
  generalize ((10 ^ t : Nat) : Int) = Q at *
  generalize (Nat.gcd (10 ^ s) c.natAbs : Int) = G at *
  generalize (Nat.gcd (10 ^ t) d.natAbs : Int) = G' at *
  generalize rdN c (10 ^ s) = u at *
  generalize rdN d (10 ^ t) = v at *
  generalize ((rdD c (10 ^ s) : Nat) : Int) = x at *
  generalize ((rdD d (10 ^ t) : Nat) : Int) = y at *
  grind
theorem bqn (s : ByteArray) : ¬ ((!s.toList == s.toList) = true) := by simp
theorem zr256 {n : Nat} (h : n < 2 ^ (B8 + B8 + B8)) : Zr n := by
  refine Zr.of (b := B8 + B8 + B8) (Nat.lt_of_lt_of_le h (Nat.pow_le_pow_left (by decide) _)) (by decide)
theorem up3 {n p : Nat} (h : n < 2 ^ p) (hp : p ≤ B8 + B8 + B8) : n < 2 ^ (B8 + B8 + B8) := Nat.lt_of_lt_of_le h (Nat.pow_le_pow_right (by decide) hp)
end TryzE
end
section
set_option linter.unusedSimpArgs false
set_option linter.unusedVariables false
namespace TryzE
open Go.Eng Go.Proofs Num KD
set_option maxRecDepth 1000000
set_option linter.unusedVariables false
theorem sums_j10 {c d : Int} {s t : Nat} (hc : c.natAbs < 2 ^ B8) (hd : d.natAbs < 2 ^ B8) (hs : s ≤ 64) (ht : t ≤ 64) :
    Et (fun k => law07DecSums.j10 k (L c.natAbs) (decide (c < 0)) (s : Int) (R c.natAbs) (decide (c < 0)) (s : Int) (L d.natAbs) (decide (d < 0)) (t : Int) (R d.natAbs) (decide (d < 0)) (t : Int) (R (-d).natAbs) (decide (-d < 0)) (t : Int)) ⟨[(.v (.c (.bool true)))], []⟩ := by
  have b8 : B8 ≤ B8 + B8 + B8 := by decide
  have zc : Zr c.natAbs := zr256 (up3 hc b8)
  have zd : Zr d.natAbs := zr256 (up3 hd b8)
  have hnd : (-d).natAbs < 2 ^ B8 := by rw [Int.natAbs_neg]; exact hd
  have zc10 : ∀ {x : Int}, x.natAbs < 2 ^ B8 → ∀ u : Nat, u ≤ 64 → Zr (x * ((10 ^ u : Nat) : Int)).natAbs := fun hx u hu => zr256 (up3 (p64 hx hu) (by decide))
  have sc := s256 hc
  have sd := s256 hd
  have snd := s256 hnd
  have a1 := dadd_ev (c := c) (d := d) hs ht sc sd
  have za1 := zdadd_ev (c := c) (d := d) hs ht zc zd (zc10 hc) (zc10 hd)
  have k3 := add_lt2 (p64 (x := c) (v := max s t - s) hc (by omega)) (p64 (x := d) (v := max s t - t) hd (by omega))
  have pr1 := dprint_ev (s := max s t) k3 (by decide) (by omega)
  have zp1 := zdprint_ev (s := max s t) k3 (by decide) (by omega) (zr256 (up3 k3 (by decide)))
  have a2 := dsub_ev (c := c) (d := d) hs ht sc sd
  have za2 := zdadd_ev (c := c) (d := -d) hs ht zc (by rw [Int.natAbs_neg]; exact zd) (zc10 hc) (zc10 hnd)
  have k4 := add_lt2 (p64 (x := c) (v := max s t - s) hc (by omega)) (p64 (x := -d) (v := max s t - t) hnd (by omega))
  have pr2 := dprint_ev (s := max s t) k4 (by decide) (by omega)
  have zp2 := zdprint_ev (s := max s t) k4 (by decide) (by omega) (zr256 (up3 k4 (by decide)))
  have c1 := dcmp_ev (c := c) (d := d) hs ht sc sd
  have f1 := zfrac_ev (c := c) (s := s) (by omega) zc
  have f2 := zfrac_ev (c := d) (s := t) (by omega) zd
  have ten8 : ∀ {u : Nat}, u ≤ 64 → 10 ^ u < 2 ^ B8 := fun hu => Nat.lt_of_le_of_lt (Nat.pow_le_pow_right (by decide) hu) (by decide)
  have rn : ∀ (x : Int) (u : Nat), x.natAbs < 2 ^ B8 → (rdN x (10 ^ u)).natAbs < 2 ^ B8 := fun x u hx => Nat.lt_of_le_of_lt (rdN_le _ _) hx
  have rd : ∀ (x : Int) (u : Nat), u ≤ 64 → rdD x (10 ^ u) < 2 ^ B8 := fun x u hu => Nat.lt_of_le_of_lt (rdD_le _ _) (ten8 hu)
  have z8 : ∀ {n : Nat}, n < 2 ^ B8 → Zr n := fun h => zr256 (up3 h b8)
  have zx : ∀ {x : Int} {e : Nat}, x.natAbs < 2 ^ B8 → e < 2 ^ B8 → Zr (x * (e : Int)).natAbs := fun hx he => by
    rw [Int.natAbs_mul, Int.natAbs_natCast]; exact zr256 (up3 (mul_lt2 hx he) (by decide))
  have c2 := zfcmp_ev (n := rdN c (10 ^ s)) (m := rdN d (10 ^ t)) (d := rdD c (10 ^ s)) (e := rdD d (10 ^ t)) (z8 (rn c s hc)) (z8 (rn d t hd)) (z8 (rd c s hs)) (z8 (rd d t ht)) (zx (rn c s hc) (rd d t ht)) (zx (rn d t hd) (rd c s hs))
  have ps : 0 < 10 ^ s := Nat.pow_pos (by decide)
  have f3 := dfrac_ev (c := c) (s := s) (by omega) sc.sz
  have fp := fprint_ev (n := rdN c (10 ^ s)) (d := rdD c (10 ^ s)) (b := B8) (c := B8) (rdD_pos ps) (rn c s hc) (by decide) (rd c s hs) (by decide)
  have zfp := zfprint_ev (n := rdN c (10 ^ s)) (d := rdD c (10 ^ s)) (b := B8) (c := B8) (rdD_pos ps) (rn c s hc) (by decide) (rd c s hs) (by decide) (z8 (rn c s hc)) (z8 (rd c s hs))
  have wp := wprint_ev (x := c) (b := B8) hc (by decide)
  have zp := zprint_ev (x := c) (b := B8) hc (by decide) zc
  rw [← bq (sdec c)]
  refine .to (fun k => law07DecSums.j10_eq k _ _ _ _ _ _ _ _ _ _ _ _ _ _ _) ?_
  exact .call wakes07_ev <| .pos rfl <| .call a1 <| .call pr1 <| .call za1 <| .call zp1 <| .pos (bq _) <| .call a2 <| .call pr2 <| .call za2 <| .call zp2 <| .pos (bq _) <| .call c1 <| .call f1 <| .call f2 <| .call c2 <| .pos (beq_iff_eq.2 (cross_eq c d s t)) <|
    .call f3 <| .call fp <| .call f1 <| .call zfp <| .pos (bq _) <| .call (dscale_ev c s) <| .pos (beq_iff_eq.2 rfl) <| .call (dcoef_ev c s) <| .call wp <| .call zp <| .ret _
theorem decSums_true (l l' : List Int) (b b' : Bool) (z z' : Int) (h : Dg (18446744073709551616 : Int) l) (h' : Dg (18446744073709551616 : Int) l') (hz : 0 ≤ z ∧ z < 256) (hz' : 0 ≤ z' ∧ z' < 256) :
    ∃ k, C k 11 [.v (.agg [.sl (.int .u64) l, .bool b, .int .u8 z]), .v (.agg [.sl (.int .u64) l', .bool b', .int .u8 z'])] = some ⟨[(.v (.c (.bool true)))], []⟩ := by
  have n1 := num7_ev b z h hz
  have n2 := num7_ev b' z' h' hz'
  have hc : (amt4 l b).natAbs < 2 ^ B8 := amt4_lt l b h
  have hd : (amt4 l' b').natAbs < 2 ^ B8 := amt4_lt l' b' h'
  have hs : scl z ≤ 64 := by unfold scl; omega
  have ht : scl z' ≤ 64 := by unfold scl; omega
  generalize amt4 l b = c at *
  generalize amt4 l' b' = d at *
  generalize scl z = s at *
  generalize scl z' = t at *
  have b8 : B8 ≤ B8 + B8 + B8 := by decide
  have j := sums_j10 hc hd hs ht
  have w : Go.IntKind.i64.wrap ((s : Int) + (t : Int)) = ((s + t : Nat) : Int) := by rw [wi (by omega) (by omega)]; omega
  have m := dmul_ev (c := c) (d := d) hs ht (s256 hc).sz (s256 hd).sz
  unfold mlV at m
  by_cases hst : s + t ≤ 64
  · rw [if_pos hst] at m
    have hm : (c * d).natAbs < 2 ^ (B8 + B8) := by rw [Int.natAbs_mul]; exact mul_lt2 hc hd
    have p := dprint_ev (c := c * d) (s := s + t) hm (by decide) hst
    have zp := zdprint_ev (c := c * d) (s := s + t) hm (by decide) hst (zr256 (up3 hm (by decide)))
    rw [← w] at zp
    exact Ct.of (fun k => law07DecSums.eq k _ _ _ _ _ _) (.call n1 <| .call n2 <| .call (zneg_ev d) <| .call m <| .neg (by rw [decide_eq_true_eq]; show ¬ Go.IntKind.i64.wrap ((s : Int) + (t : Int)) > 64; rw [w]; omega) <| .pos rfl <| .call p <| .call (zmul_ev (zr256 (up3 hc b8)) (zr256 (up3 hd b8))) <| .call zp <| .neg (bqn _) <| j)
  · rw [if_neg hst] at m
    exact Ct.of (fun k => law07DecSums.eq k _ _ _ _ _ _) (.call n1 <| .call n2 <| .call (zneg_ev d) <| .call m <| .pos (by rw [decide_eq_true_eq]; show Go.IntKind.i64.wrap ((s : Int) + (t : Int)) > 64; rw [w]; omega) <| .pos rfl <| .call (dcoef_ev 0 0) <| .call (wsign_ev 0) <| .pos (by decide) <| .call (dscale_ev 0 0) <| .neg (by decide) <| j)
end TryzE
end
