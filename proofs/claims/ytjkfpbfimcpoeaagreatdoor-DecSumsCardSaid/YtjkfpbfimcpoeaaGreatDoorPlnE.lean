/- Decimals: their texts, sums, products and scales; the law of the rules holds of every input. -/
import Derived.Test.YtjkfpbfimcpoeaaGreatDoorPlnD
import Derived.Laws.Strings
section
set_option linter.unusedSimpArgs false
set_option linter.unusedVariables false
namespace TryzE
open Go.Eng Go.Proofs Num KD
set_option linter.unusedVariables false
/-! ## Decimals: texts, sums, products, scales -/
theorem dec_size {n b : Nat} (h : n < 2 ^ b) : (dec n).size ≤ b + 1 := by
  unfold dec
  split
  · show 1 ≤ b + 1; omega
  · have hl : (dig 10 n).length ≤ b := dig_len_lt (by decide) (Nat.lt_of_lt_of_le h (Nat.pow_le_pow_left (by decide) b))
    unfold txt
    rw [bytesS_size]
    unfold asc
    simp; omega
/-- A whole number's text. -/
def sdec (x : Int) : ByteArray := if x < 0 then (⟨#[(45 : UInt8)]⟩ : ByteArray) ++ dec x.natAbs else dec x.natAbs
theorem szText {n b : Nat} (h : n < 2 ^ b) (hb : b ≤ 1000000) : (dec n).size ≤ 1000001 := by have := dec_size h; omega
theorem wprint_ev {x : Int} {b : Nat} (h : x.natAbs < 2 ^ b) (hb : b ≤ 1000000) : Ev 15 sh15 [wA x] (sdec x) := by
  have s : Sz x.natAbs := Sz.of h hb
  have z := szText h hb
  unfold sdec
  by_cases hx : x < 0
  · rw [if_pos hx]
    exact Ev.of (fun k => wholeIntPrint.eq k _ _) (.pos (decide_eq_true hx) <| .call (print_ev s) <| .pos (by omega) <| .ret _) (fun F => rfl)
  · rw [if_neg hx]
    exact wprint_pos (by omega) s
theorem dec_head {n : Nat} : ∃ x t, (dec n).data.toList = x :: t ∧ x ≠ 45 := by
  unfold dec
  split
  · exact ⟨48, [], rfl, by decide⟩
  · rename_i h0
    have hdg := dig_dg (B := 10) (by decide) n
    obtain ⟨t, x, hx⟩ : ∃ t x, dig 10 n = t ++ [x] := by
      rcases List.eq_nil_or_concat (dig 10 n) with h | ⟨t, x, h⟩
      · exact absurd ((dig_eq_nil (B := 10) (by decide)).1 h) h0
      · exact ⟨t, x, by simpa using h⟩
    have hx9 : 0 ≤ x ∧ x < 10 := hdg x (by rw [hx]; simp)
    refine ⟨UInt8.ofNat (48 + x).toNat, (asc t).reverse.map (fun x => UInt8.ofNat x.toNat), ?_, ?_⟩
    · unfold txt bytesS
      rw [hx]
      unfold asc
      simp
    · intro h
      have h2 := congrArg UInt8.toNat h
      rw [UInt8.toNat_ofNat'] at h2
      have h3 : (45 : UInt8).toNat = 45 := rfl
      rw [h3] at h2
      omega
theorem hasp_no {n : Nat} : (((dec n).extract 0 ((⟨#[(45 : UInt8)]⟩ : ByteArray).size : Int).toNat).toList == (⟨#[(45 : UInt8)]⟩ : ByteArray).toList) = false := by
  obtain ⟨x, t, h, hx⟩ := dec_head (n := n)
  rw [Go.ByteArray.toList_eq, Go.ByteArray.toList_eq]
  have e1 : ((⟨#[(45 : UInt8)]⟩ : ByteArray).size : Int).toNat = 1 := rfl
  rw [e1]
  simp [ByteArray.data_extract, List.extract_eq_take_drop, h]
  exact hx
theorem cutp_ev (x : Int) {b : Nat} (h : x.natAbs < 2 ^ b) (hb : b ≤ 1000000) : Ev 87 sh87 [sA (sdec x), sA ⟨#[(45 : UInt8)]⟩] (dec x.natAbs, decide (x < 0)) := by
  have z := szText h hb
  have e1 : (⟨#[(45 : UInt8)]⟩ : ByteArray).size = 1 := rfl
  have d1 : 1 ≤ (dec x.natAbs).size := by
    obtain ⟨y, t, h, _⟩ := dec_head (n := x.natAbs)
    have : (dec x.natAbs).data.toList.length = (dec x.natAbs).size := Array.length_toList
    rw [← this, h]; simp
  have inner : Ev 133 sh133 [sA (sdec x), sA ⟨#[(45 : UInt8)]⟩] (dec x.natAbs, decide (x < 0)) := by
    unfold sdec
    by_cases hx : x < 0
    · rw [if_pos hx, decide_eq_true hx]
      have hp : Ev 146 sh146 [sA ((⟨#[(45 : UInt8)]⟩ : ByteArray) ++ dec x.natAbs), sA ⟨#[(45 : UInt8)]⟩] true := by
        refine Ev.of (fun k => internalStringsliteHasPrefix.eq k _ _) (.pos (by rw [decide_eq_true_eq, ByteArray.size_append]; omega) <| .pos (by rw [ByteArray.size_append]; omega) <| .ret _) (fun F => ?_)
        have : ((((⟨#[(45 : UInt8)]⟩ : ByteArray) ++ dec x.natAbs).extract 0 ((⟨#[(45 : UInt8)]⟩ : ByteArray).size : Int).toNat).toList == (⟨#[(45 : UInt8)]⟩ : ByteArray).toList) = true := by
          rw [Go.ByteArray.toList_eq, Go.ByteArray.toList_eq]
          simp [ByteArray.data_extract, List.extract_eq_take_drop, e1]
        rw [this]; rfl
      have ex : (((⟨#[(45 : UInt8)]⟩ : ByteArray) ++ dec x.natAbs).extract ((⟨#[(45 : UInt8)]⟩ : ByteArray).size : Int).toNat ((⟨#[(45 : UInt8)]⟩ : ByteArray) ++ dec x.natAbs).size) = dec x.natAbs := by
        apply ByteArray.ext
        apply Array.toList_inj.1
        simp [ByteArray.data_extract, List.extract_eq_take_drop, e1, ByteArray.size_append]
        exact List.take_of_length_le (Nat.le_of_eq Array.length_toList)
      rw [show (dec x.natAbs, true) = ((((⟨#[(45 : UInt8)]⟩ : ByteArray) ++ dec x.natAbs).extract ((⟨#[(45 : UInt8)]⟩ : ByteArray).size : Int).toNat ((⟨#[(45 : UInt8)]⟩ : ByteArray) ++ dec x.natAbs).size), true) by rw [ex]]
      exact Ev.of (fun k => internalStringsliteCutPrefix.eq k _ _) (.call hp <| .neg (by decide) <| .pos (by rw [ByteArray.size_append]; omega) <| .ret _) (fun F => rfl)
    · rw [if_neg hx, decide_eq_false hx]
      have hp : Ev 146 sh146 [sA (dec x.natAbs), sA ⟨#[(45 : UInt8)]⟩] false := by
        refine Ev.of (fun k => internalStringsliteHasPrefix.eq k _ _) (.pos (by rw [decide_eq_true_eq]; omega) <| .pos (by omega) <| .ret _) (fun F => ?_)
        rw [hasp_no]; rfl
      exact Ev.of (fun k => internalStringsliteCutPrefix.eq k _ _) (.call hp <| .pos rfl <| .ret _) (fun F => rfl)
  exact Ev.of (fun k => stringsCutPrefix.eq k _ _) (.call inner <| .ret _) (fun F => rfl)
theorem dadd_ev {c d : Int} {s t : Nat} (hs : s ≤ 64) (ht : t ≤ 64) (hc : S0 c.natAbs) (hd : S0 d.natAbs) : Ev 53 sh53 [dA c s, dA d t] (dV (c * ((10 ^ (max s t - s) : Nat) : Int) + d * ((10 ^ (max s t - t) : Nat) : Int)) (max s t : Nat)) := by
  have hm : Go.Eng.maxI (s : Int) (t : Int) = ((max s t : Nat) : Int) := by
    unfold Go.Eng.maxI
    split <;> omega
  have z : ∀ {c : Int} {u : Nat}, S0 c.natAbs → u ≤ 64 → Sz (c * ((10 ^ u : Nat) : Int)).natAbs := fun hc hu => hc.mulN (s0ten (by omega))
  refine Ev.of (fun k => decDecAdd.eq k _ _ _ _ _ _) (.call (dat_ev (max s t - s) (by rw [hm, wi (by omega) (by omega)]; omega) (by omega) hc.sz) <| .call (dat_ev (max s t - t) (by rw [hm, wi (by omega) (by omega)]; omega) (by omega) hd.sz) <|
    .call (wadd_ev (z hc (by omega)) (z hd (by omega))) <| .ret _) (fun F => ?_)
  rw [hm]; rfl
theorem dsub_ev {c d : Int} {s t : Nat} (hs : s ≤ 64) (ht : t ≤ 64) (hc : S0 c.natAbs) (hd : S0 d.natAbs) : Ev 54 sh54 [dA c s, dA d t] (dV (c * ((10 ^ (max s t - s) : Nat) : Int) + (-d) * ((10 ^ (max s t - t) : Nat) : Int)) (max s t : Nat)) :=
  Ev.of (fun k => decDecSub.eq k _ _ _ _ _ _) (.call (wneg_ev d) <| .call (dadd_ev (d := -d) hs ht hc (by rw [Int.natAbs_neg]; exact hd)) <| .ret _) (fun F => rfl)
def mlV (c d : Int) (s t : Nat) : (List Int × (Bool × Int)) × Int := if s + t ≤ 64 then (dV (c * d) ((s + t : Nat) : Int), 0) else (dV 0 0, 10)
theorem dmul_ev {c d : Int} {s t : Nat} (hs : s ≤ 64) (ht : t ≤ 64) (hc : Sz c.natAbs) (hd : Sz d.natAbs) : Ev 52 sh52 [dA c s, dA d t] (mlV c d s t) := by
  have w : Go.IntKind.i64.wrap ((s : Int) + (t : Int)) = ((s + t : Nat) : Int) := by rw [wi (by omega) (by omega)]; omega
  unfold mlV
  by_cases h : s + t ≤ 64
  · rw [if_pos h]
    exact Ev.of (fun k => (decDecMul.eq k _ _ _ _ _ _)) (.call (wmul_ev hc hd) <| .call (by rw [w]; exact dof_ev (c * d) _ (by omega) (by omega)) <| .ret _) (fun F => rfl)
  · rw [if_neg h]
    exact Ev.of (fun k => (decDecMul.eq k _ _ _ _ _ _)) (.call (wmul_ev hc hd) <| .call (by rw [w]; exact dof_bad (c * d) _ (by omega)) <| .ret _) (fun F => rfl)
theorem rndN_rdm {m x : Int} {d P : Nat} (hd : 0 < d) : rndN m (rdN x d * (P : Int)).natAbs (rdD x d) = rndN m (x.natAbs * P) d := by
  have hg := gcd_pos (n := x) hd
  have h1 : Nat.gcd d x.natAbs * (rdN x d).natAbs = x.natAbs := by
    rw [rdN_abs]; exact Nat.mul_div_cancel' (Nat.gcd_dvd_right _ _)
  have h2 := rdD_mul x d
  have h := rndN_scale (m := m) (a := (rdN x d).natAbs * P) (d := rdD x d) hg
  rw [← Nat.mul_assoc, h1, h2] at h
  rw [Int.natAbs_mul, Int.natAbs_natCast]
  exact h.symm
/-- Rescale, of any decimal to a good scale by a good mode. -/
theorem drescale_ev {c : Int} {s tq : Nat} {m : Int} (hs : s ≤ 64) (ht : tq ≤ 64) (hm : 0 ≤ m ∧ m < 5) (hc : S0 c.natAbs) : Ev 37 sh37 [dA c s, iA (tq : Int), iA m] (dV (sgd c (rndN m (c.natAbs * 10 ^ tq) (10 ^ s))) (tq : Int), 0) := by
  have p0 : 0 < 10 ^ s := Nat.pow_pos (by decide)
  have hgood : Ev 120 sh120 [iA m] true :=
    Ev.of (fun k => roundModeGood.eq k _) (.pos (by simpa using hm.1) (.ret _)) (fun F => by rw [decide_eq_true hm.2]; rfl)
  have ht0 : tenS tq = 0 := by rw [tenS, if_neg (by omega), if_neg (by omega)]
  have hten : Ev 153 sh153 [iA (tq : Int)] (L (10 ^ tq), 0) := by
    have h : Ev 153 sh153 [iA (tq : Int)] (L (tenV tq), tenS tq) := ten_spec tq
    rw [show tenV tq = 10 ^ tq by rw [tenV, if_pos ht0, Int.toNat_natCast], ht0] at h
    exact h
  have sN : S0 (rdN c (10 ^ s)).natAbs := hc.mono (rdN_le _ _)
  have sD : S0 (rdD c (10 ^ s)) := (s0ten (by omega)).mono (rdD_le _ _)
  have fm := fmul_ev (n := rdN c (10 ^ s)) (d := rdD c (10 ^ s)) (m := ((10 ^ tq : Nat) : Int)) (e := 1) (rdD_pos p0) (by decide) sN (by rw [Int.natAbs_natCast]; exact s0ten (by omega)) sD (z1000 (by decide))
  rw [Nat.mul_one] at fm
  have rw0 := rwhole_rd (x := rdN c (10 ^ s) * ((10 ^ tq : Nat) : Int)) (d := rdD c (10 ^ s)) hm (rdD_pos p0) (sN.mulN (s0ten (by omega))) sD
  rw [rndN_rdm p0] at rw0
  have hsg : ∀ a : Nat, sgd (rdN c (10 ^ s) * ((10 ^ tq : Nat) : Int)) a = sgd c a := by
    intro a
    have h1 := rdN_neg (n := c) p0
    have hp : (0 : Int) < ((10 ^ tq : Nat) : Int) := by exact_mod_cast Nat.pow_pos (by decide)
    have h2 : rdN c (10 ^ s) * ((10 ^ tq : Nat) : Int) < 0 ↔ rdN c (10 ^ s) < 0 := by
      constructor
      · intro h
        rcases Int.lt_or_le (rdN c (10 ^ s)) 0 with h' | h'
        · exact h'
        · have := Int.mul_nonneg h' (Int.le_of_lt hp); omega
      · intro h; exact Int.mul_neg_of_neg_of_pos h hp
    unfold sgd
    simp only [h2, h1]
  rw [hsg] at rw0
  have sc : Ev 132 sh132 [fA (rdN c (10 ^ s)) (rdD c (10 ^ s)), iA (tq : Int), iA m] (wV (sgd c (rndN m (c.natAbs * 10 ^ tq) (10 ^ s))), 0) :=
    Ev.of (fun k => roundScaled.eq k _ _ _ _ _) (.call hgood <| .neg (by decide) <| .pos (decide_eq_false (by omega)) <| .neg (by rw [decide_eq_true_eq]; omega) <| .to (fun k => roundScaled.j5_eq k _ _ _ _ _ _) <|
      .call hten <| .call (wof_ev (10 ^ tq) false ((10 ^ tq : Nat) : Int) (by rw [if_neg (by decide)])) <| .call (ffrom_ev _) <| .call fm <| .call rw0 <| .ret _) (fun F => rfl)
  have rd : Ev 85 sh85 [fA (rdN c (10 ^ s)) (rdD c (10 ^ s)), iA (tq : Int), iA m] (dV (sgd c (rndN m (c.natAbs * 10 ^ tq) (10 ^ s))) (tq : Int), 0) :=
    Ev.of (fun k => decRounded.eq k _ _ _ _ _) (.call sc <| .neg Bool.false_ne_true <| .ret _) (fun F => rfl)
  exact Ev.of (fun k => decDecRescale.eq k _ _ _ _ _) (.call (dfrac_ev (by omega) hc.sz) <| .call rd <| .ret _) (fun F => rfl)
end TryzE
end
section
set_option linter.unusedSimpArgs false
set_option linter.unusedVariables false
namespace TryzE
open Go.Eng Go.Proofs Num KD
set_option linter.unusedVariables false
/-! ## A decimal's text; DecRules -/
theorem rep_ev (n : Nat) (hn : n ≤ 1048576) : Ev 51 sh51 [sA ⟨#[(48 : UInt8)]⟩, iA (n : Int)] (repS n ⟨#[48]⟩) := by
  refine ⟨1, fun k hk F => ?_⟩
  obtain ⟨k, rfl, hk'⟩ := succOf (k := k) (n := 0) (by omega)
  have h : (decide (0 ≤ (n : Int)) && decide ((n : Int) ≤ 1048576) && decide ((⟨#[(48 : UInt8)]⟩ : ByteArray).size ≤ 1048576)) = true := by
    have : (⟨#[(48 : UInt8)]⟩ : ByteArray).size = 1 := rfl
    rw [this]; simp; omega
  have : C (k + 1) 51 [sA ⟨#[(48 : UInt8)]⟩, iA (n : Int)] = some ⟨[.v (.c (.str (repS n ⟨#[48]⟩)))], []⟩ := by
    rw [C_X (h := xRepeat) rfl]
    unfold xRepeat
    simp only [h, Int.toNat_natCast]
  rw [this]; rfl
theorem repS_size : ∀ n : Nat, (repS n ⟨#[48]⟩).size = n
  | 0 => rfl
  | n + 1 => by
    rw [repS, ByteArray.size_append, repS_size n]
    show 1 + n = n + 1
    omega
def dtail (s : Nat) (t : ByteArray) : ByteArray := if 0 < s then t.extract 0 (t.size - s) ++ (⟨#[(46 : UInt8)]⟩ : ByteArray) ++ t.extract (t.size - s) t.size else t
/-- A decimal's text. -/
def dtx (c : Int) (s : Nat) : ByteArray :=
  if c < 0 then (⟨#[(45 : UInt8)]⟩ : ByteArray) ++ dtail s (repS (s + 1 - (dec c.natAbs).size) ⟨#[48]⟩ ++ dec c.natAbs)
  else dtail s (repS (s + 1 - (dec c.natAbs).size) ⟨#[48]⟩ ++ dec c.natAbs)
theorem dprint_ev {c : Int} {b s : Nat} (h : c.natAbs < 2 ^ b) (hb : b ≤ 1000000) (hs : s ≤ 64) : Ev 40 sh40 [dA c s] (dtx c s) := by
  have z := szText h hb
  have e : Go.Eng.maxI (0 : Int) (Go.IntKind.i64.wrap (Go.IntKind.i64.wrap ((s : Int) + (1 : Int)) - ((dec c.natAbs).size : Int))) = ((s + 1 - (dec c.natAbs).size : Nat) : Int) := by
    rw [wi (x := (s : Int) + 1) (by omega) (by omega), wi (by omega) (by omega)]
    unfold Go.Eng.maxI
    split <;> omega
  have hrep : Ev 51 sh51 [sA ⟨#[(48 : UInt8)]⟩, iA (Go.Eng.maxI (0 : Int) (Go.IntKind.i64.wrap (Go.IntKind.i64.wrap ((s : Int) + (1 : Int)) - ((dec c.natAbs).size : Int))))] (repS (s + 1 - (dec c.natAbs).size) ⟨#[48]⟩) := by
    rw [e]; exact rep_ev _ (by omega)
  have tsz : (repS (s + 1 - (dec c.natAbs).size) ⟨#[48]⟩ ++ dec c.natAbs).size = s + 1 - (dec c.natAbs).size + (dec c.natAbs).size := by rw [ByteArray.size_append, repS_size]
  have w : Go.IntKind.i64.wrap (((repS (s + 1 - (dec c.natAbs).size) ⟨#[48]⟩ ++ dec c.natAbs).size : Int) - (s : Int)) = (((repS (s + 1 - (dec c.natAbs).size) ⟨#[48]⟩ ++ dec c.natAbs).size - s : Nat) : Int) := by
    rw [wi (by omega) (by omega)]; omega
  have us : ∀ t : ByteArray, t.size ≤ 2000000 → (dtail s t).size ≤ 4000010 := by
    intro t ht
    unfold dtail
    split
    · have e1 : (⟨#[(46 : UInt8)]⟩ : ByteArray).size = 1 := rfl
      rw [ByteArray.size_append, ByteArray.size_append, e1, ByteArray.size_extract, ByteArray.size_extract]
      omega
    · omega
  have fin : ∀ u : ByteArray, u = dtail s (repS (s + 1 - (dec c.natAbs).size) ⟨#[48]⟩ ++ dec c.natAbs) → Et (fun k => decDecPrint.j6 k u (decide (c < 0))) ⟨[(.v (.c (.str (dtx c s))))], []⟩ := by
    intro u hu
    have hsz := us (repS (s + 1 - (dec c.natAbs).size) ⟨#[48]⟩ ++ dec c.natAbs) (by omega)
    rw [← hu] at hsz
    refine .to (fun k => decDecPrint.j6_eq k _ _) ?_
    unfold dtx
    rw [← hu]
    by_cases hc : c < 0
    · rw [if_pos hc]
      exact .pos (decide_eq_true hc) <| .pos (by omega) <| .ret _
    · rw [if_neg hc]
      exact .neg (by rw [decide_eq_true_eq]; exact hc) <| .ret _
  by_cases hs0 : 0 < s
  · refine Ev.of (r := ⟨[(.v (.c (.str (dtx c s))))], []⟩) (fun k => decDecPrint.eq k _ _ _) (.call (wprint_ev h hb) <| .call (cutp_ev c h hb) <| .call hrep <| .pos (by rw [repS_size]; show _ + (dec c.natAbs).size ≤ _; omega) <| .pos (decide_eq_true (by omega)) <| ?_) (fun F => rfl)
    show Et (fun k => iteA _ _ _) _
    generalize hT : repS (s + 1 - (dec c.natAbs).size) ⟨#[48]⟩ ++ dec c.natAbs = T at *
    have e1 : (⟨#[(46 : UInt8)]⟩ : ByteArray).size = 1 := rfl
    have hx1 : (T.extract 0 (T.size - s)).size ≤ T.size := by rw [ByteArray.size_extract]; omega
    have hx2 : (T.extract (T.size - s) T.size).size ≤ T.size := by rw [ByteArray.size_extract]; omega
    rw [w, Int.toNat_natCast]
    refine .pos (by omega) <| .pos (by omega) <| .pos (by omega) <| .pos (by rw [ByteArray.size_append, e1]; omega) <| fin _ ?_
    unfold dtail
    rw [if_pos hs0]
  · refine Ev.of (r := ⟨[(.v (.c (.str (dtx c s))))], []⟩) (fun k => decDecPrint.eq k _ _ _) (.call (wprint_ev h hb) <| .call (cutp_ev c h hb) <| .call hrep <| .pos (by rw [repS_size]; show _ + (dec c.natAbs).size ≤ _; omega) <| .neg (by rw [decide_eq_true_eq]; omega) <| fin _ ?_) (fun F => rfl)
    unfold dtail
    rw [if_neg hs0]
/-! The argument of the laws of decimals -/
def amt4 (l : List Int) (b : Bool) : Int := if b = true then -(val (18446744073709551616 : Int) (l.take (min l.length 4))) else val (18446744073709551616 : Int) (l.take (min l.length 4))
theorem amt4_lt (l : List Int) (b : Bool) (h : Dg (18446744073709551616 : Int) l) : (amt4 l b).natAbs < 2 ^ 256 := by
  have hp := h.take (min l.length 4)
  have hpl : (l.take (min l.length 4)).length ≤ 4 := by simp; omega
  have h0 := val_nonneg (B := (18446744073709551616 : Int)) (by decide) hp
  have h1 := val_lt (B := (18446744073709551616 : Int)) (by decide) hp
  have h2 : (18446744073709551616 : Int) ^ (l.take (min l.length 4)).length ≤ (18446744073709551616 : Int) ^ 4 := pow_mono (by decide) hpl
  have h3 : ((2 ^ 256 : Nat) : Int) = (18446744073709551616 : Int) ^ 4 := by decide
  unfold amt4
  split <;> omega
def scl (z : Int) : Nat := (z % 65).toNat
theorem num7_ev {l : List Int} (b : Bool) (z : Int) (h : Dg (18446744073709551616 : Int) l) (hz : 0 ≤ z ∧ z < 256) : Ev 36 sh36 [.v (.agg [.sl (.int .u64) l, .bool b, .int .u8 z])] (dV (amt4 l b) (scl z : Int), ((zV (amt4 l b)).1, (zV (amt4 l b)).2, (scl z : Int))) := by
  have hmin : minI (l.length : Int) 4 = ((min l.length 4 : Nat) : Int) := by unfold minI; split <;> omega
  have hp := h.take (min l.length 4)
  have hpl : (l.take (min l.length 4)).length ≤ 4 := by simp; omega
  have h0 := val_nonneg (B := (18446744073709551616 : Int)) (by decide) hp
  obtain ⟨n, hn⟩ : ∃ n : Nat, val (18446744073709551616 : Int) (l.take (min l.length 4)) = n := ⟨(val (18446744073709551616 : Int) (l.take (min l.length 4))).toNat, by omega⟩
  have ha : amt4 l b = if b = true then -(n : Int) else n := by unfold amt4; rw [hn]
  have e : (l.take (minI (l.length : Int) 4).toNat) = l.take (min l.length 4) := by rw [hmin, Int.toNat_natCast]
  have n1 : Ev 61 sh61 [.v (.c (.sl (.int .u64) (l.take (minI (l.length : Int) 4).toNat)))] (L n) := by
    rw [e]; exact ⟨_, of_spec _ n hp hn (by omega)⟩
  have n2 : Ev 63 sh63 [.v (.c (.sl (.int .u64) (l.take (minI (l.length : Int) 4).toNat)))] (R n) := by
    rw [e]; exact rof_spec _ n hp hn (by omega)
  have w : Go.IntKind.i64.wrap (z.tmod (65 : Int)) = (scl z : Int) := by
    unfold scl
    rw [Int.tmod_eq_emod_of_nonneg hz.1, wi (by omega) (by omega)]; omega
  have o := dof_ev (amt4 l b) (scl z : Int) (by omega) (by unfold scl; omega)
  rw [← w] at o
  refine Ev.of (fun k => law07Num.eq k _ _ _) (.pos (by rw [hmin]; omega) <| .call n1 <| .call (wof_ev n b _ ha) <| .call o <| .call n2 <| .call (zof_ev n b _ ha) <| .ret _) (fun F => ?_)
  rw [w]
  rfl
end TryzE
end
section
set_option linter.unusedSimpArgs false
set_option linter.unusedVariables false
namespace TryzE
open Go.Eng Go.Proofs Num KD
set_option maxRecDepth 1000000
set_option linter.unusedVariables false
theorem p150_eq (k : Nat) : C (k + 200) 46 [sA ⟨#[(49 : UInt8), (46 : UInt8), (53 : UInt8), (48 : UInt8)]⟩] = some ⟨[(.v (.agg [.sl (.int .u64) [150], .bool false, .int .i64 2])), (.v (.c (.int .i64 0)))], []⟩ := by kernel_rfl
theorem p0125_eq (k : Nat) : C (k + 200) 46 [sA ⟨#[(48 : UInt8), (46 : UInt8), (49 : UInt8), (50 : UInt8), (53 : UInt8)]⟩] = some ⟨[(.v (.agg [.sl (.int .u64) [125], .bool false, .int .i64 3])), (.v (.c (.int .i64 0)))], []⟩ := by kernel_rfl
theorem p01_eq (k : Nat) : C (k + 200) 46 [sA ⟨#[(48 : UInt8), (49 : UInt8)]⟩] = some ⟨[(.v (.agg [.nil, .bool false, .int .i64 0])), (.v (.c (.int .i64 5)))], []⟩ := by kernel_rfl
end TryzE
end
section
set_option linter.unusedSimpArgs false
set_option linter.unusedVariables false
namespace TryzE
open Go.Eng Go.Proofs Num KD
set_option maxRecDepth 1000000
set_option linter.unusedVariables false
theorem p01_ev : Ev 46 sh46 [sA ⟨#[(48 : UInt8), (49 : UInt8)]⟩] (dV 0 0, 5) := by
  refine ⟨200, fun k hk F => ?_⟩
  rw [show k = k - 200 + 200 by omega, p01_eq]
  rfl
theorem sgd_pow {n : Int} {tq a : Nat} : sgd (n * ((10 ^ tq : Nat) : Int)) a = sgd n a := by
  have hp : (0 : Int) < ((10 ^ tq : Nat) : Int) := by exact_mod_cast Nat.pow_pos (by decide)
  have h2 : n * ((10 ^ tq : Nat) : Int) < 0 ↔ n < 0 := by
    constructor
    · intro h
      rcases Int.lt_or_le n 0 with h' | h'
      · exact h'
      · have := Int.mul_nonneg h' (Int.le_of_lt hp); omega
    · intro h; exact Int.mul_neg_of_neg_of_pos h hp
  unfold sgd
  simp only [h2]
theorem rounded_ev {n : Int} {d tq : Nat} {m : Int} (hd : 0 < d) (ht : tq ≤ 64) (hm : 0 ≤ m ∧ m < 5) (sN : S0 n.natAbs) (sD : S0 d) : Ev 85 sh85 [fA n d, iA (tq : Int), iA m] (dV (sgd n (rndN m (n.natAbs * 10 ^ tq) d)) (tq : Int), 0) := by
  have hgood : Ev 120 sh120 [iA m] true :=
    Ev.of (fun k => roundModeGood.eq k _) (.pos (by simpa using hm.1) (.ret _)) (fun F => by rw [decide_eq_true hm.2]; rfl)
  have ht0 : tenS tq = 0 := by rw [tenS, if_neg (by omega), if_neg (by omega)]
  have hten : Ev 153 sh153 [iA (tq : Int)] (L (10 ^ tq), 0) := by
    have h : Ev 153 sh153 [iA (tq : Int)] (L (tenV tq), tenS tq) := ten_spec tq
    rw [show tenV tq = 10 ^ tq by rw [tenV, if_pos ht0, Int.toNat_natCast], ht0] at h
    exact h
  have fm := fmul_ev (n := n) (d := d) (m := ((10 ^ tq : Nat) : Int)) (e := 1) hd (by decide) sN (by rw [Int.natAbs_natCast]; exact s0ten (by omega)) sD (z1000 (by decide))
  rw [Nat.mul_one] at fm
  have rw0 := rwhole_rd (x := n * ((10 ^ tq : Nat) : Int)) (d := d) hm hd (sN.mulN (s0ten (by omega))) sD
  rw [sgd_pow, Int.natAbs_mul, Int.natAbs_natCast] at rw0
  have sc : Ev 132 sh132 [fA n d, iA (tq : Int), iA m] (wV (sgd n (rndN m (n.natAbs * 10 ^ tq) d)), 0) :=
    Ev.of (fun k => roundScaled.eq k _ _ _ _ _) (.call hgood <| .neg (by decide) <| .pos (decide_eq_false (by omega)) <| .neg (by rw [decide_eq_true_eq]; omega) <| .to (fun k => roundScaled.j5_eq k _ _ _ _ _ _) <|
      .call hten <| .call (wof_ev (10 ^ tq) false ((10 ^ tq : Nat) : Int) (by rw [if_neg (by decide)])) <| .call (ffrom_ev _) <| .call fm <| .call rw0 <| .ret _) (fun F => rfl)
  exact Ev.of (fun k => decRounded.eq k _ _ _ _ _) (.call sc <| .neg Bool.false_ne_true <| .ret _) (fun F => rfl)
theorem z6 {n : Nat} (h : n ≤ 1000000) : Sz n := (z1000 h).sz
theorem quo7_ev : Ev 38 sh38 [dA 125 3, dA 150 2, iA 3, iA 2] (dV 83 3, 0) := by
  have f1 := dfrac_ev (c := 125) (s := 3) (by decide) (z6 (by decide))
  have f2 := dfrac_ev (c := 150) (s := 2) (by decide) (z6 (by decide))
  have a1 : rdN 125 (10 ^ 3) = 1 := by kernel_rfl
  have a2 : rdD 125 (10 ^ 3) = 8 := by kernel_rfl
  have a3 : rdN 150 (10 ^ 2) = ((3 : Nat) : Int) := by kernel_rfl
  have a4 : rdD 150 (10 ^ 2) = 2 := by kernel_rfl
  rw [a1, a2] at f1
  rw [a3, a4] at f2
  have q := fquo_pos (n := 1) (d := 8) (e := 2) (m := 3) (by decide) (by decide) (by decide) (z1000 (by decide)) (z1000 (by decide)) (z1000 (by decide)) (z1000 (by decide))
  have b1 : rdN (1 * ((2 : Nat) : Int)) (8 * 3) = 1 := by kernel_rfl
  have b2 : rdD (1 * ((2 : Nat) : Int)) (8 * 3) = 12 := by kernel_rfl
  rw [b1, b2] at q
  have r := rounded_ev (n := 1) (d := 12) (tq := 3) (m := 2) (by decide) (by decide) (by decide) (z1000 (by decide)) (z1000 (by decide))
  have c1 : sgd 1 (rndN 2 ((1 : Int).natAbs * 10 ^ 3) 12) = 83 := by kernel_rfl
  rw [c1] at r
  exact Ev.of (fun k => decDecQuo.eq k _ _ _ _ _ _ _ _) (.call f1 <| .call f2 <| .call q <| .neg Bool.false_ne_true <| .call r <| .ret _) (fun F => rfl)
theorem wakes07_ev : Ev 45 sh45 [] true := by
  have e1 := parse_of (c := 150) (s := 2) p150_eq
  have e2 := parse_of (c := 125) (s := 3) p0125_eq
  have m := dmul_ev (c := 150) (d := 125) (s := 2) (t := 3) (by decide) (by decide) (z6 (by decide)) (z6 (by decide))
  have m' : mlV 150 125 2 3 = (dV 18750 5, 0) := by unfold mlV; rw [if_pos (by decide)]; rfl
  rw [m'] at m
  have a := dadd_ev (c := 150) (d := 125) (s := 2) (t := 3) (by decide) (by decide) (z1000 (by decide)) (z1000 (by decide))
  have a' : (150 : Int) * ((10 ^ (max 2 3 - 2) : Nat) : Int) + 125 * ((10 ^ (max 2 3 - 3) : Nat) : Int) = 1625 := by decide
  rw [a'] at a
  have d1 := dprint_ev (c := 1625) (b := 20) (s := 3) (by decide) (by decide) (by decide)
  have d2 := dprint_ev (c := 18750) (b := 20) (s := 5) (by decide) (by decide) (by decide)
  have d3 := dprint_ev (c := 83) (b := 20) (s := 3) (by decide) (by decide) (by decide)
  have t1 : ((dtx 1625 3).toList == (⟨#[(49 : UInt8), (46 : UInt8), (54 : UInt8), (50 : UInt8), (53 : UInt8)]⟩ : ByteArray).toList) = true := by kernel_rfl
  have t2 : ((dtx 18750 5).toList == (⟨#[(48 : UInt8), (46 : UInt8), (49 : UInt8), (56 : UInt8), (55 : UInt8), (53 : UInt8), (48 : UInt8)]⟩ : ByteArray).toList) = true := by kernel_rfl
  have t3 : ((dtx 83 3).toList == (⟨#[(48 : UInt8), (46 : UInt8), (48 : UInt8), (56 : UInt8), (51 : UInt8)]⟩ : ByteArray).toList) = true := by kernel_rfl
  exact Ev.of (fun k => law07Wakes.eq k) (.call e1 <| .call e2 <| .call m <| .call p01_ev <| .call quo7_ev <| .pos rfl <| .call a <| .call d1 <| .pos t1 <| .call d2 <| .pos t2 <| .pos rfl <| .pos rfl <| .call d3 <| .pos t3 <| .pos rfl <| .call (dscale_ev 150 2) <| .ret _) (fun F => rfl)
/-! DecRules -/
theorem rndN_exact {m : Int} {a d : Nat} (hd : 0 < d) : rndN m (a * d) d = a := by
  unfold rndN
  rw [if_neg (by simp), Nat.mul_div_cancel _ hd]
theorem sgd_abs (c : Int) : sgd c c.natAbs = c := by unfold sgd; split <;> omega
theorem up_eq (c : Int) (m : Int) {s t : Nat} (h : s ≤ t) : sgd c (rndN m (c.natAbs * 10 ^ t) (10 ^ s)) = c * ((10 ^ (t - s) : Nat) : Int) := by
  have e : 10 ^ t = 10 ^ (t - s) * 10 ^ s := by rw [← Nat.pow_add]; congr 1; omega
  rw [e, ← Nat.mul_assoc, rndN_exact (Nat.pow_pos (by decide))]
  unfold sgd
  have hc := sgd_abs c
  unfold sgd at hc
  split
  · rename_i h1
    rw [if_pos h1] at hc
    rw [Int.natCast_mul, ← Int.neg_mul, hc]
  · rename_i h1
    rw [if_neg h1] at hc
    rw [Int.natCast_mul, hc]
theorem down_back (c : Int) (m : Int) {s t : Nat} (h : s ≤ t) : sgd (c * ((10 ^ (t - s) : Nat) : Int)) (rndN m ((c * ((10 ^ (t - s) : Nat) : Int)).natAbs * 10 ^ s) (10 ^ t)) = c := by
  have e : 10 ^ t = 10 ^ (t - s) * 10 ^ s := by rw [← Nat.pow_add]; congr 1; omega
  rw [sgd_pow, Int.natAbs_mul, Int.natAbs_natCast, Nat.mul_assoc, ← e, rndN_exact (Nat.pow_pos (by decide)), sgd_abs]
theorem bq (s : ByteArray) : (s.toList == s.toList) = true := by simp
theorem mul_lt2 {a b p q : Nat} (ha : a < 2 ^ p) (hb : b < 2 ^ q) : a * b < 2 ^ (p + q) := by
  rw [Nat.pow_add]; exact Nat.mul_lt_mul'' ha hb
theorem add_lt2 {a b : Int} {p : Nat} (ha : a.natAbs < 2 ^ p) (hb : b.natAbs < 2 ^ p) : (a + b).natAbs < 2 ^ (p + 1) := by
  rw [Nat.pow_succ]; omega
def B8 : Nat := 256
theorem p64 {x : Int} {v : Nat} (hx : x.natAbs < 2 ^ B8) (hv : v ≤ 64) : (x * ((10 ^ v : Nat) : Int)).natAbs < 2 ^ (B8 + B8) := by
  rw [Int.natAbs_mul, Int.natAbs_natCast]
  have h10 : 10 ^ v ≤ 10 ^ 64 := Nat.pow_le_pow_right (by decide) hv
  have h11 : 10 ^ 64 < 2 ^ B8 := by decide
  exact mul_lt2 hx (Nat.lt_of_le_of_lt h10 h11)
theorem s256 {c : Int} (h : c.natAbs < 2 ^ 256) : S0 c.natAbs := s0i h (by decide)
theorem decRules_true (l l' : List Int) (b b' : Bool) (z z' w : Int) (h : Dg (18446744073709551616 : Int) l) (h' : Dg (18446744073709551616 : Int) l') (hz : 0 ≤ z ∧ z < 256) (hz' : 0 ≤ z' ∧ z' < 256) (hw : 0 ≤ w ∧ w < 256) :
    ∃ k, C k 10 [.v (.agg [.sl (.int .u64) l, .bool b, .int .u8 z]), .v (.agg [.sl (.int .u64) l', .bool b', .int .u8 z']), .v (.c (.int .u8 w))] = some ⟨[(.v (.c (.bool true)))], []⟩ := by
  have n1 := num7_ev b z h hz
  have n2 := num7_ev b' z' h' hz'
  have hc := amt4_lt l b h
  have hd := amt4_lt l' b' h'
  have hs : scl z ≤ 64 := by unfold scl; omega
  have ht : scl z' ≤ 64 := by unfold scl; omega
  generalize hcc : amt4 l b = c at *
  generalize amt4 l' b' = d at *
  generalize scl z = s at *
  generalize scl z' = t at *
  obtain ⟨u, hu, hu0, hu1⟩ : ∃ u : Nat, Go.IntKind.i64.wrap ((s : Int) + (Go.IntKind.i64.wrap w).tmod (Go.IntKind.i64.wrap ((65 : Int) - (s : Int)))) = (u : Int) ∧ s ≤ u ∧ u ≤ 64 := by
    rw [wi (x := w) (by omega) (by omega), wi (x := (65 : Int) - s) (by omega) (by omega), Int.tmod_eq_emod_of_nonneg hw.1]
    have h1 := Int.emod_nonneg w (show (65 : Int) - s ≠ 0 by omega)
    have h2 := Int.emod_lt_of_pos w (show (0 : Int) < 65 - s by omega)
    generalize w % (65 - (s : Int)) = q at *
    rw [wi (by omega) (by omega)]
    exact ⟨s + q.toNat, by omega, by omega, by omega⟩
  have sc := s256 hc
  have sd := s256 hd
  have r1 := drescale_ev (c := c) (s := s) (tq := u) (m := 0) hs hu1 (by decide) sc
  rw [up_eq c 0 hu0] at r1
  have hr := p64 (v := u - s) hc (by omega)
  have r2 := drescale_ev (c := c * ((10 ^ (u - s) : Nat) : Int)) (s := u) (tq := s) (m := 4) hu1 hs (by decide) (s0i hr (by decide))
  rw [down_back c 4 hu0] at r2
  have m1 := dmul_ev (c := c) (d := d) hs ht sc.sz sd.sz
  have m2 := dmul_ev (c := d) (d := c) ht hs sd.sz sc.sz
  have mm : mlV d c t s = mlV c d s t := by unfold mlV; rw [Int.mul_comm d c, Nat.add_comm t s]
  rw [mm] at m2
  have hM : max s t ≤ 64 := by omega
  have a1 := dadd_ev (c := c) (d := d) hs ht sc sd
  have k1 := p64 (x := c) (v := max s t - s) hc (by omega)
  have k2 := p64 (x := d) (v := max s t - t) hd (by omega)
  have k3 := add_lt2 k1 k2
  have b1 := dsub_ev (c := c * ((10 ^ (max s t - s) : Nat) : Int) + d * ((10 ^ (max s t - t) : Nat) : Int)) (d := d) (s := max s t) (t := t) hM ht (s0i k3 (by decide)) sd
  have e1 : (c * ((10 ^ (max s t - s) : Nat) : Int) + d * ((10 ^ (max s t - t) : Nat) : Int)) * ((10 ^ (max (max s t) t - max s t) : Nat) : Int) + (-d) * ((10 ^ (max (max s t) t - t) : Nat) : Int) = c * ((10 ^ (max s t - s) : Nat) : Int) := by
    rw [show max (max s t) t = max s t by omega, Nat.sub_self, Int.neg_mul]
    have : ((10 ^ 0 : Nat) : Int) = 1 := rfl
    rw [this]; omega
  have e2 : max (max s t) t = max s t := by omega
  rw [e1, e2] at b1
  have c1 := dcmp_ev (c := c * ((10 ^ (max s t - s) : Nat) : Int)) (d := c) (s := max s t) (t := s) hM hs (s0i k1 (by decide)) sc
  have e3 : (c * ((10 ^ (max s t - s) : Nat) : Int)) * ((10 ^ (max (max s t) s - max s t) : Nat) : Int) - c * ((10 ^ (max (max s t) s - s) : Nat) : Int) = 0 := by
    rw [show max (max s t) s = max s t by omega, Nat.sub_self]
    have : ((10 ^ 0 : Nat) : Int) = 1 := rfl
    rw [this]; omega
  rw [e3] at c1
  have c2 := dcmp_ev (c := c * ((10 ^ (u - s) : Nat) : Int)) (d := c) (s := u) (t := s) hu1 hs (s0i hr (by decide)) sc
  have e4 : (c * ((10 ^ (u - s) : Nat) : Int)) * ((10 ^ (max u s - u) : Nat) : Int) - c * ((10 ^ (max u s - s) : Nat) : Int) = 0 := by
    rw [show max u s = u by omega, Nat.sub_self]
    have : ((10 ^ 0 : Nat) : Int) = 1 := rfl
    rw [this]; omega
  rw [e4] at c2
  have pc := dprint_ev (c := c) (b := 256) (s := s) hc (by decide) hs
  have b2 := dsub_ev (c := c) (d := d) hs ht sc sd
  have c3 := dcmp_ev (c := c) (d := d) hs ht sc sd
  have e5 : c * ((10 ^ (max s t - s) : Nat) : Int) + (-d) * ((10 ^ (max s t - t) : Nat) : Int) = c * ((10 ^ (max s t - s) : Nat) : Int) - d * ((10 ^ (max s t - t) : Nat) : Int) := by rw [Int.neg_mul]; omega
  rw [e5] at b2
  obtain ⟨pm, hpm⟩ : ∃ tx, Ev 40 sh40 [.v (.agg [.sl (.int .u64) (mlV c d s t).1.1, .bool (mlV c d s t).1.2.1, .int .i64 (mlV c d s t).1.2.2])] tx := by
    unfold mlV
    by_cases hst : s + t ≤ 64
    · rw [if_pos hst]
      exact ⟨_, dprint_ev (c := c * d) (b := B8 + B8) (s := s + t) (by rw [Int.natAbs_mul]; exact mul_lt2 (p := B8) (q := B8) hc hd) (by decide) hst⟩
    · rw [if_neg hst]
      exact ⟨_, dprint_ev (c := 0) (b := 1) (s := 0) (by decide) (by decide) (by decide)⟩
  have hmax : Go.Eng.maxI (s : Int) (t : Int) = ((max s t : Nat) : Int) := by
    unfold Go.Eng.maxI
    split <;> omega
  have s65 : ¬ Go.IntKind.i64.wrap ((65 : Int) - (s : Int)) = 0 := by rw [wi (by omega) (by omega)]; omega
  rw [← hu] at r1 r2 c2
  have fin : (sgZ (c * ((10 ^ (max s t - s) : Nat) : Int) - d * ((10 ^ (max s t - t) : Nat) : Int)) == sgZ (c * ((10 ^ (max s t - s) : Nat) : Int) - d * ((10 ^ (max s t - t) : Nat) : Int))) = true := by rw [beq_iff_eq]
  rw [← fin]
  exact Ct.of (fun k => law07DecRules.eq k _ _ _ _ _ _ _) (.call n1 <| .call n2 <| .call (dscale_ev c s) <| .call (dscale_ev c s) <| .neg s65 <| .call r1 <| .call (dscale_ev c s) <| .call r2 <| .call m1 <| .call m2 <| .call wakes07_ev <| .pos rfl <|
    .call a1 <| .call b1 <| .call c1 <| .pos rfl <| .call a1 <| .call (dscale_ev _ _) <| .call (dscale_ev c s) <| .call (dscale_ev d t) <| .pos (by rw [beq_iff_eq]; exact hmax.symm) <| .pos rfl <| .call c2 <| .pos rfl <| .call (dscale_ev _ _) <| .pos (beq_iff_eq.2 rfl) <| .pos rfl <|
    .call pc <| .call pc <| .pos (bq _) <| .pos (beq_iff_eq.2 rfl) <| .call hpm <| .call hpm <| .pos (bq _) <| .call b2 <| .call (dcoef_ev _ _) <| .call (wsign_ev _) <| .call c3 <| .ret _)
end TryzE
end
