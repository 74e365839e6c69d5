/- What texts and the document's numbers come to; the law holds of every list of limbs and every count. -/
import Derived.Test.YtndiihpgbdnllaaDoorPlnA
section
set_option linter.unusedSimpArgs false
set_option linter.unusedVariables false
namespace TrydE
open Go.Eng Go.Proofs Num
/-! ## A number's text -/
def padD (w x : Nat) : List Int := dig 10 x ++ List.replicate (w - (dig 10 x).length) 0
def asc (l : List Int) : List Int := l.map (fun d => 48 + d)
theorem smallD_eq : ∀ (f x w : Nat), x < 10 ^ f → w ≤ f → smallD f x w = asc (padD w x)
  | 0, x, w, hx, hw => by
    have : x = 0 := by simpa using hx
    subst this
    have : w = 0 := by omega
    subst this
    rfl
  | f + 1, x, w, hx, hw => by
    rw [smallD]
    by_cases h0 : x = 0
    · subst h0
      by_cases hw0 : w = 0
      · subst hw0; rfl
      · rw [if_pos (.inr (by omega)), Nat.zero_div, smallD_eq f 0 (w - 1) (Nat.pow_pos (by decide)) (by omega)]
        unfold padD asc
        rw [dig_zero]
        simp only [List.length_nil, Nat.sub_zero, List.nil_append]
        obtain ⟨v, rfl⟩ : ∃ v, w = v + 1 := ⟨w - 1, by omega⟩
        rw [Nat.add_sub_cancel, List.replicate_succ, List.map_cons]
        rfl
    · rw [if_pos (.inl (by omega)), smallD_eq f (x / 10) (w - 1) (by rw [Nat.pow_succ] at hx; omega) (by omega)]
      unfold padD asc
      rw [dig_pos (B := 10) (by decide) (show 0 < x by omega)]
      simp only [List.length_cons, List.cons_append, List.map_cons]
      rw [show w - 1 - (dig 10 (x / 10)).length = w - ((dig 10 (x / 10)).length + 1) by omega]
      congr 1
theorem dig10_split {n : Nat} (w : Nat) (h : 0 < n / 10 ^ w) : dig 10 n = padD w (n % 10 ^ w) ++ dig 10 (n / 10 ^ w) := by
  have hp : 0 < 10 ^ w := Nat.pow_pos (by decide)
  have hl : (dig 10 (n % 10 ^ w)).length ≤ w := dig_len_lt (by decide) (Nat.mod_lt _ hp)
  have lp : (padD w (n % 10 ^ w)).length = w := by unfold padD; simp; omega
  refine (dig_unique (B := 10) (by decide) ?_ ?_ ?_).symm
  · exact ((dig_dg (by decide) _).append (Dg.replicate (by decide) _)).append (dig_dg (by decide) _)
  · have := dig_tr (B := 10) (by decide) (n / 10 ^ w)
    unfold Tr at this ⊢
    rw [List.getLast?_append]
    cases hx : (dig 10 (n / 10 ^ w)).getLast? with
    | none => 
      rw [List.getLast?_eq_none_iff, dig_eq_nil (by decide)] at hx; omega
    | some y => rw [hx] at this; simpa using this
  · rw [val_append, lp, padD, val_append, val_replicate, Int.mul_zero, Int.add_zero]
    have e1 := dig_val (B := 10) (by decide) (n % 10 ^ w)
    have e2 := dig_val (B := 10) (by decide) (n / 10 ^ w)
    have e3 : ((10 : Nat) : Int) = 10 := rfl
    rw [e3] at e1 e2 ⊢
    rw [e1, e2]
    have h1 := Nat.mod_add_div n (10 ^ w)
    have h2 : ((n % 10 ^ w + 10 ^ w * (n / 10 ^ w) : Nat) : Int) = n := by rw [h1]
    rw [Int.natCast_add, Int.natCast_mul, Int.natCast_pow] at h2
    exact h2
theorem bytesS_append (l m : List Int) : bytesS (l ++ m) = bytesS l ++ bytesS m := by
  apply ByteArray.ext
  simp [bytesS, ByteArray.data_append]
theorem bytesS_size (l : List Int) : (bytesS l).size = l.length := by simp [bytesS, ByteArray.size]
/-- the digits, the highest first; nothing for nought -/
def txt (n : Nat) : ByteArray := bytesS (asc (dig 10 n)).reverse
theorem txt_split {n : Nat} (w : Nat) (h : 0 < n / 10 ^ w) : txt n = txt (n / 10 ^ w) ++ bytesS (asc (padD w (n % 10 ^ w))).reverse := by
  unfold txt
  rw [dig10_split w h, ← bytesS_append]
  unfold asc
  rw [List.map_append, List.reverse_append]
theorem txt_one {n : Nat} (h : 0 < n) : txt n = bytesS (asc (padD 1 n)).reverse := by
  unfold txt padD
  have : 1 ≤ (dig 10 n).length := by
    rcases Nat.eq_zero_or_pos (dig 10 n).length with h1 | h1
    · rw [List.length_eq_zero_iff, dig_eq_nil (by decide)] at h1; omega
    · exact h1
  rw [Nat.sub_eq_zero_of_le this]
  simp
/-! ## digits.Print -/
def catR : List ByteArray → ByteArray
  | [] => ⟨#[]⟩
  | s :: r => catR r ++ s
theorem ba_nil_append (s : ByteArray) : (⟨#[]⟩ : ByteArray) ++ s = s := by apply ByteArray.ext; simp [ByteArray.data_append]
theorem ba_append_nil (s : ByteArray) : s ++ (⟨#[]⟩ : ByteArray) = s := by apply ByteArray.ext; simp [ByteArray.data_append]
theorem catR_snoc : ∀ (l : List ByteArray) (s : ByteArray), catR (l ++ [s]) = s ++ catR l
  | [], s => by simp only [List.nil_append, catR]; rw [ba_nil_append, ba_append_nil]
  | x :: l, s => by simp only [List.cons_append, catR]; rw [catR_snoc l s, ByteArray.append_assoc]
theorem catR_size : ∀ (l : List ByteArray), (∀ s ∈ l, s.size ≤ 20) → (catR l).size ≤ 20 * l.length
  | [], _ => by simp [catR, ByteArray.size]
  | x :: l, h => by
    have h1 := catR_size l (fun s hs => h s (by simp [hs]))
    have h2 := h x (by simp)
    simp only [catR, ByteArray.size_append, List.length_cons]
    omega
theorem print_l2 (parts : List ByteArray) (h20 : ∀ s ∈ parts, s.size ≤ 20) (hl : parts.length < 100000000) : ∀ (j : Nat) (acc : ByteArray), j ≤ parts.length → acc.size + 20 * j ≤ 20 * parts.length → ∀ k n, j + 1 ≤ n →
    digitsPrint.l2 k n ((j : Int) - 1) acc parts = some ⟨[(.v (.c (.str (acc ++ catR (parts.take j)))))], []⟩ := by
  intro j
  induction j with
  | zero =>
    intro acc hj hs k n hn
    obtain ⟨n, rfl, hn'⟩ := succOf hn
    rw [digitsPrint.l2_succ]
    simp only [iteA_eq]
    rw [if_neg (by simp), List.take_zero, catR, ba_append_nil]
  | succ j ih =>
    intro acc hj hs k n hn
    obtain ⟨n, rfl, hn'⟩ := succOf hn
    have e : ((j + 1 : Nat) : Int) - 1 = (j : Int) := by omega
    have hg : parts.getD j ⟨#[]⟩ = parts[j] := by simp [List.getD_eq_getElem?_getD, List.getElem?_eq_getElem (show j < parts.length by omega)]
    have hsz : (parts[j]).size ≤ 20 := h20 _ (List.getElem_mem _)
    rw [digitsPrint.l2_succ]
    simp only [iteA_eq, e, Int.toNat_natCast, hg]
    rw [if_pos (by simp), if_pos (by omega), if_pos (by rw [decide_eq_true_eq]; omega), wi (by omega) (by omega), ih _ (by omega) (by rw [ByteArray.size_append]; omega) k n hn', List.take_succ_eq_append_getElem (by omega), catR_snoc, ByteArray.append_assoc]
theorem print_l1 (k n n0 : Nat) (r : Nat) (hr : r < 18446744073709551616) (m q : List Int) (parts : List ByteArray) (hn : 2 ≤ n) : digitsPrint.l1 k n n0 0 (L r) ((L r).length : Int) 0 m q parts = callT (C k 9 [(.v (.agg [(.sl (.int .u64) q)]))]) sh9 fun (y6 : Bool) => (iteA (y6 = Bool.true) (digitsPrint.j15 k n0 (r : Int) 1 m q parts) (digitsPrint.j15 k n0 (r : Int) 18 m q parts)) := by
  obtain ⟨n, rfl, hn'⟩ := succOf hn
  rcases Nat.eq_zero_or_pos r with h | h
  · subst h
    rw [digitsPrint.l1_succ, L_zero, iteA_eq, if_neg (by simp)]
    rfl
  · rw [L_one h hr, digitsPrint.l1_succ, iteA_eq, if_pos (by simp), iteA_eq, if_pos (by simp)]
    obtain ⟨n, rfl, hn'⟩ := succOf hn'
    rw [digitsPrint.l1_succ, iteA_eq, if_neg (by simp [Go.IntKind.wrap_i64])]
    rfl
end TrydE
end
section
set_option linter.unusedSimpArgs false
set_option linter.unusedVariables false
namespace TrydE
open Go.Eng Go.Proofs Num
theorem catR_ap (t p : ByteArray) (l : List ByteArray) : t ++ catR (l ++ [p]) = (t ++ p) ++ catR l := by rw [catR_snoc, ByteArray.append_assoc]
theorem print_loop : ∀ (m : Nat) (parts : List ByteArray), (L m).length < 1000000 → (∀ s ∈ parts, s.size ≤ 20) → parts.length + (dig 1000000000000000000 m).length < 10000000 →
    ∃ K, ∀ k, K ≤ k → ∀ n, K ≤ n → digitsPrint.l0 k n (L m) parts = some ⟨[(.v (.c (.str (txt m ++ catR parts))))], []⟩ := by
  intro m
  induction m using Nat.strongRecOn with
  | ind m ih =>
    intro parts hm h20 hs
    by_cases h0 : m = 0
    · subst h0
      refine ⟨parts.length + 5, fun k hk n hn => ?_⟩
      obtain ⟨n, rfl, hn'⟩ := succOf (n := parts.length + 4) hn
      have h2 := print_l2 parts h20 (by omega) parts.length ⟨#[]⟩ (Nat.le_refl _) (by show 0 + _ ≤ _; omega) k k (by omega)
      rw [digitsPrint.l0_succ, zero_spec _ k (by omega)]
      simp only [iteA_eq]
      rw [if_neg (by simp [L_zero]), wi (by omega) (by omega), h2]
      rw [List.take_of_length_le (Nat.le_refl _)]
      rfl
    · have hlen : (L (m / 1000000000000000000)).length ≤ (L m).length := L_mono (Nat.div_le_self _ _)
      have hr : m % 1000000000000000000 < 18446744073709551616 := by have := Nat.mod_lt m (show 0 < 1000000000000000000 by decide); omega
      have hr18 : m % 1000000000000000000 < 10 ^ 18 := Nat.mod_lt m (by decide)
      obtain ⟨K1, hK1⟩ := div1_spec m 1000000000000000000 (by decide) (by omega)
      have e18 : (10 : Nat) ^ 18 = 1000000000000000000 := by decide
      have psz : ∀ w, 1 ≤ w → w ≤ 18 → (bytesS (asc (padD w (m % 1000000000000000000))).reverse).size ≤ 20 := by
        intro w hw1 hw2
        have : (dig 10 (m % 1000000000000000000)).length ≤ 18 := dig_len_lt (by decide) hr18
        rw [bytesS_size]; simp [asc, padD]; omega
      have hdl : (dig 1000000000000000000 m).length = (dig 1000000000000000000 (m / 1000000000000000000)).length + 1 := by
        rw [dig_pos (by decide) (show 0 < m by omega)]; rfl
      have h10 : m % 1000000000000000000 < 10 ^ 20 := by have : (10 : Nat) ^ 20 = 100000000000000000000 := by decide
                                                         omega
      have step : ∀ w, 1 ≤ w → w ≤ 18 → (txt m = txt (m / 1000000000000000000) ++ bytesS (asc (padD w (m % 1000000000000000000))).reverse) →
          ∃ K, ∀ k, K ≤ k → ∀ n, K ≤ n → digitsPrint.j15 k n ((m % 1000000000000000000 : Nat) : Int) (w : Int) (L m) (L (m / 1000000000000000000)) parts = some ⟨[(.v (.c (.str (txt m ++ catR parts))))], []⟩ := by
        intro w hw1 hw2 ht
        obtain ⟨K, hK⟩ := ih (m / 1000000000000000000) (by omega) (parts ++ [bytesS (asc (padD w (m % 1000000000000000000))).reverse]) (by omega) (by
          intro s hs
          rw [List.mem_append, List.mem_singleton] at hs
          rcases hs with h | h
          · exact h20 s h
          · subst h; exact psz w hw1 hw2) (by rw [List.length_append, List.length_singleton]; omega)
        refine ⟨K + 22, fun k hk n hn => ?_⟩
        rw [digitsPrint.j15_eq, small_spec _ w hr (by omega) k (by omega), smallD_eq 20 _ w h10 (by omega)]
        simp only [iteA_eq]
        rw [if_pos (by rw [List.length_singleton]; omega), hK k (by omega) n (by omega), catR_ap, ← ht]
      by_cases hq : m / 1000000000000000000 = 0
      · have hmm : m % 1000000000000000000 = m := by omega
        obtain ⟨K2, hK2⟩ := step 1 (by omega) (by omega) (by
          rw [hq, hmm, show txt 0 = ⟨#[]⟩ from rfl, ba_nil_append]; exact txt_one (by omega))
        refine ⟨K1 + K2 + 30, fun k hk n hn => ?_⟩
        obtain ⟨n, rfl, hn'⟩ := succOf (n := K1 + K2 + 29) hn
        rw [digitsPrint.l0_succ, zero_spec _ k (by omega)]
        simp only [iteA_eq]
        rw [if_pos (by simp [L_nil, h0]), of_spec [1000000000000000000] 1000000000000000000 (by intro d hd; simp at hd; omega) (by rfl) (by decide) k (by simp; omega), hK1 k (by omega), limbs_spec _ (by have := @L_len (m % 1000000000000000000) 1 (by omega); show ((L (m % 1000000000000000000)).length : Int) < _; omega) k (by omega), print_l1 k k n _ hr _ _ _ (by omega), zero_spec _ k (by omega)]
        simp only [iteA_eq]
        rw [if_pos (by simp [L_nil, hq])]
        exact hK2 k (by omega) n (by omega)
      · obtain ⟨K2, hK2⟩ := step 18 (by omega) (by omega) (by
          have := txt_split (n := m) 18 (by rw [e18]; omega)
          rwa [e18] at this)
        refine ⟨K1 + K2 + 30, fun k hk n hn => ?_⟩
        obtain ⟨n, rfl, hn'⟩ := succOf (n := K1 + K2 + 29) hn
        rw [digitsPrint.l0_succ, zero_spec _ k (by omega)]
        simp only [iteA_eq]
        rw [if_pos (by simp [L_nil, h0]), of_spec [1000000000000000000] 1000000000000000000 (by intro d hd; simp at hd; omega) (by rfl) (by decide) k (by simp; omega), hK1 k (by omega), limbs_spec _ (by have := @L_len (m % 1000000000000000000) 1 (by omega); show ((L (m % 1000000000000000000)).length : Int) < _; omega) k (by omega), print_l1 k k n _ hr _ _ _ (by omega), zero_spec _ k (by omega)]
        simp only [iteA_eq]
        rw [if_neg (by simp [L_nil, hq])]
        exact hK2 k (by omega) n (by omega)
/-- the text of a number -/
def dec (n : Nat) : ByteArray := if n = 0 then ⟨#[48]⟩ else txt n
theorem dig18_len (n : Nat) : (dig 1000000000000000000 n).length ≤ 2 * (L n).length := by
  refine dig_len_lt (by decide) (Nat.lt_of_lt_of_le (L_lt n) ?_)
  rw [Nat.pow_mul]
  exact Nat.pow_le_pow_left (by decide) _
theorem print_spec (n : Nat) (hn : (L n).length < 1000000) : ∃ K, ∀ k, K ≤ k → ∀ F : ByteArray → Option Res, callT (C k 10 [(.v (.agg [(.sl (.int .u64) (L n))]))]) sh10 F = F (dec n) := by
  obtain ⟨K, hK⟩ := print_loop n [] hn (by intro s hs; cases hs) (by have := dig18_len n; simp; omega)
  refine ⟨K + 5, fun k hk F => ?_⟩
  obtain ⟨k, rfl, hk'⟩ := succOf (n := K + 4) hk
  rw [digitsPrint.eq, zero_spec _ k (by omega)]
  simp only [iteA_eq]
  unfold dec
  by_cases h0 : n = 0
  · rw [if_pos (by simp [L_nil, h0]), if_pos h0]; rfl
  · rw [if_neg (by simp [L_nil, h0]), if_neg h0, hK k (by omega) k (by omega)]
    simp only [catR, ba_append_nil]
    rfl
end TrydE
end
section
set_option linter.unusedSimpArgs false
set_option linter.unusedVariables false
namespace TrydE
open Go.Eng Go.Proofs Num
/-! ## The references: base 10000 -/
def R (n : Nat) : List Int := dig 10000 n
theorem R_dg (n : Nat) : Dg 10000 (R n) := dig_dg (B := 10000) (by decide) n
theorem R_val (n : Nat) : val 10000 (R n) = n := dig_val (B := 10000) (by decide) n
theorem R_lt (n : Nat) : n < 10000 ^ (R n).length := lt_of_dig_len (B := 10000) (by decide) n
theorem R_len {n k : Nat} (h : n < 10000 ^ k) : (R n).length ≤ k := dig_len_lt (B := 10000) (by decide) h
theorem R_mono {n m : Nat} (h : n ≤ m) : (R n).length ≤ (R m).length := R_len (Nat.lt_of_le_of_lt h (R_lt m))
theorem R_trim {l : List Int} (h : Dg 10000 l) {n k : Nat} (hv : val 10000 l = n) (hk : k ≤ l.length) (hz : ∀ i, k ≤ i → i < l.length → l.getD i 0 = 0) (ht : k = 0 ∨ l.getD (k - 1) 0 ≠ 0) : l.take k = R n := trim_dig (B := 10000) (by decide) h hv hk hz ht
theorem R_uni {l : List Int} (h : Dg 10000 l) (t : Tr l) {n : Nat} (hv : val 10000 l = n) : l = R n := dig_unique (B := 10000) (by decide) h t hv
theorem R_zero : R 0 = [] := rfl
theorem R_pos {n : Nat} (h : 0 < n) : R n = ((n % 10000 : Nat) : Int) :: R (n / 10000) := dig_pos (by decide) h
theorem val_take_le' {B : Int} (l : List Int) {n : Nat} (h : l.length ≤ n) : val B (l.take n) = val B l := by rw [List.take_of_length_le h]
theorem at_spec (l : List Int) (i : Nat) : ∀ k, 1 ≤ k → ∀ F : Int → Option Res, callT (C k 61 [(.v (.c (.sl (.int .i64) l))), (.v (.c (.int .i64 (i : Int))))]) sh61 F = F (l.getD i 0) := by
  intro k hk F
  obtain ⟨k, rfl, hk'⟩ := succOf hk
  rw [ref01At.eq]
  simp only [iteA_eq]
  by_cases h : l.length ≤ i
  · rw [if_pos (by simpa using h), List.getD_eq_getElem?_getD, List.getElem?_eq_none h]; rfl
  · rw [if_neg (by simpa using h), if_pos (by omega)]; rfl
theorem trim_loop (l : List Int) : ∀ (j : Nat), j ≤ l.length → (l.length : Int) < 1000000000 → ∀ k n, j + 1 ≤ n → ∃ i, i ≤ j ∧ ref01Trim.l0 k n l (j : Int) = some ⟨[(.v (.c (.sl (.int .i64) (l.take i))))], []⟩ ∧ (∀ x, i ≤ x → x < j → l.getD x 0 = 0) ∧ (i = 0 ∨ l.getD (i - 1) 0 ≠ 0) := by
  intro j
  induction j with
  | zero =>
    intro hj hl k n hn
    obtain ⟨n, rfl, -⟩ := succOf hn
    refine ⟨0, Nat.le_refl _, ?_, fun x h1 h2 => absurd h2 (by omega), .inl rfl⟩
    rw [ref01Trim.l0_succ]
    simp only [iteA_eq]
    simp
  | succ j ih =>
    intro hj hl k n hn
    obtain ⟨n, rfl, hn'⟩ := succOf hn
    rw [ref01Trim.l0_succ]
    have w : Go.IntKind.i64.wrap (((j + 1 : Nat) : Int) - 1) = (j : Int) := by rw [wi (by omega) (by omega)]; omega
    simp only [iteA_eq, w]
    rw [if_pos (by simp), if_pos (by omega)]
    by_cases h0 : l.getD j 0 = 0
    · rw [if_pos (by simpa using h0)]
      obtain ⟨i, h1, h2, h3, h4⟩ := ih (by omega) hl k n hn'
      refine ⟨i, by omega, h2, fun x hx1 hx2 => ?_, h4⟩
      by_cases hx : x = j
      · subst hx; exact h0
      · exact h3 x hx1 (by omega)
    · rw [if_neg (by simpa using h0)]
      refine ⟨j + 1, Nat.le_refl _, ?_, fun x h1 h2 => absurd h2 (by omega), .inr (by simpa using h0)⟩
      rw [if_pos (by omega)]
      simp
theorem trim_spec (l : List Int) (n : Nat) (h : Dg 10000 l) (hv : val 10000 l = n) (hl : (l.length : Int) < 1000000000) : ∀ k, l.length + 2 ≤ k → ∀ F : List Int → Option Res, callT (C k 62 [(.v (.c (.sl (.int .i64) l)))]) sh62 F = F (R n) := by
  intro k hk F
  obtain ⟨k, rfl, hk'⟩ := succOf hk
  obtain ⟨i, h1, h2, h3, h4⟩ := trim_loop l l.length (Nat.le_refl _) hl k k hk'
  rw [ref01Trim.eq, h2, R_trim h hv h1 h3 h4]
  rfl
theorem rsmall_loop : ∀ (x : Nat) (out : List Int), x < 9223372036854775808 → out.length < 1000 → ∀ k n, x + 1 ≤ n → out.length + (R x).length < 1000 → ref01Small.l0 k n (x : Int) out = some ⟨[(.fresh (.int .i64) (out ++ R x))], []⟩ := by
  intro x
  induction x using Nat.strongRecOn with
  | ind x ih =>
    intro out hx ho k n hn hs
    obtain ⟨n, rfl, hn'⟩ := succOf hn
    rw [ref01Small.l0_succ]
    simp only [iteA_eq]
    by_cases h0 : x = 0
    · subst h0
      rw [if_neg (by simp), R_zero, List.append_nil]
    · rw [R_pos (by omega), List.length_cons] at hs
      have e1 : (x : Int).tdiv 10000 = ((x / 10000 : Nat) : Int) := by rw [Int.tdiv_eq_ediv_of_nonneg (by omega)]; omega
      have e2 : (x : Int).tmod 10000 = ((x % 10000 : Nat) : Int) := by rw [Int.tmod_eq_emod_of_nonneg (by omega)]; omega
      rw [if_pos (by simp; omega), if_pos (by rw [List.length_singleton]; omega), e1, e2, wi (by omega) (by omega), ih (x / 10000) (by omega) _ (by omega) (by rw [List.length_append, List.length_singleton]; omega) k n (by omega) (by rw [List.length_append, List.length_singleton]; omega), R_pos (show 0 < x by omega), List.append_assoc]
      rfl
theorem rsmall_spec (x : Nat) (hx : x < 9223372036854775808) : ∃ K, ∀ k, K ≤ k → ∀ F : List Int → Option Res, callT (C k 39 [(.v (.c (.int .i64 (x : Int))))]) sh39 F = F (R x) := by
  refine ⟨x + 2, fun k hk F => ?_⟩
  obtain ⟨k, rfl, hk'⟩ := succOf (n := x + 1) hk
  have hl : (R x).length ≤ 5 := R_len (by have : (10000 : Nat) ^ 5 = 100000000000000000000 := by decide
                                          omega)
  rw [ref01Small.eq, rsmall_loop x [] hx (by decide) k k hk' (by simp; omega)]
  rfl
theorem radd_loop {a b : List Int} (ha : Dg 10000 a) (hb : Dg 10000 b) (hN : max a.length b.length < 100000000) : ∀ (r i : Nat) (c : Int) (out : List Int), i + r = max a.length b.length + 1 → out.length = i → Dg 10000 out → (c = 0 ∨ c = 1) → (max a.length b.length < i → c = 0) →
    val 10000 out + 10000 ^ i * c = val 10000 (a.take i) + val 10000 (b.take i) → ∀ k n, 2 ≤ k → r + 1 ≤ n →
    ∃ (out' : List Int), out'.length ≤ max a.length b.length + 1 ∧ Dg 10000 out' ∧ val 10000 out' = val 10000 a + val 10000 b ∧
      ref01Add.l0 k n a b c (i : Int) out = callT (C k 62 [(.v (.c (.sl (.int .i64) out')))]) sh62 fun (y1 : List Int) => (some ⟨[(.v (.c (.sl (.int .i64) y1)))], []⟩) := by
  intro r
  induction r with
  | zero =>
    intro i c out hi ho hd hc hc0 hv k n hk hn
    obtain ⟨n, rfl, hn'⟩ := succOf hn
    have c0 := hc0 (by omega)
    subst c0
    refine ⟨out, by omega, hd, ?_, ?_⟩
    · rw [val_take_le' a (by omega), val_take_le' b (by omega)] at hv; omega
    · rw [ref01Add.l0_succ]
      simp only [iteA_eq]
      rw [if_pos (by simp; omega), if_pos (by simp; omega), if_neg (by decide)]
  | succ r ih =>
    intro i c out hi ho hd hc hc0 hv k n hk hn
    obtain ⟨n, rfl, hn'⟩ := succOf hn
    have xa := ha.getD (by decide) i
    have xb := hb.getD (by decide) i
    have more : (i < a.length ∨ i < b.length ∨ c = 1) → ∃ (out' : List Int), out'.length ≤ max a.length b.length + 1 ∧ Dg 10000 out' ∧ val 10000 out' = val 10000 a + val 10000 b ∧
      ref01Add.j6 k n a b c (i : Int) out = callT (C k 62 [(.v (.c (.sl (.int .i64) out')))]) sh62 fun (y1 : List Int) => (some ⟨[(.v (.c (.sl (.int .i64) y1)))], []⟩) := by
      intro hmore
      have hz : max a.length b.length < i + 1 → (a.getD i 0 + b.getD i 0 + c) / 10000 = 0 := by
        intro h
        have h1 : a.getD i 0 = 0 := by rw [List.getD_eq_getElem?_getD, List.getElem?_eq_none (by omega)]; rfl
        have h2 : b.getD i 0 = 0 := by rw [List.getD_eq_getElem?_getD, List.getElem?_eq_none (by omega)]; rfl
        rw [h1, h2]; omega
      obtain ⟨out', r1, r2, r3, r5⟩ := ih (i + 1) ((a.getD i 0 + b.getD i 0 + c) / 10000) (out ++ [(a.getD i 0 + b.getD i 0 + c) % 10000]) (by omega) (by rw [List.length_append, List.length_singleton, ho]) (hd.append (Dg.cons (by omega) (by omega) Dg.nil)) (by omega) hz (by
        rw [val_snoc, val_take_succ, val_take_succ, ho, Int.pow_succ]
        have e : (a.getD i 0 + b.getD i 0 + c) % 10000 + 10000 * ((a.getD i 0 + b.getD i 0 + c) / 10000) = a.getD i 0 + b.getD i 0 + c := Int.emod_add_mul_ediv _ _
        have := congrArg (10000 ^ i * ·) e
        simp only [Int.mul_add, ← Int.mul_assoc] at this
        omega) k n hk hn'
      refine ⟨out', r1, r2, r3, ?_⟩
      rw [ref01Add.j6_eq, at_spec _ _ k (by omega), at_spec _ _ k (by omega)]
      simp only [iteA_eq]
      rw [if_pos (by rw [List.length_singleton]; omega), wi (x := a.getD i 0 + b.getD i 0) (by omega) (by omega), wi (x := a.getD i 0 + b.getD i 0 + c) (by omega) (by omega), Int.tdiv_eq_ediv_of_nonneg (by omega), Int.tmod_eq_emod_of_nonneg (by omega), wi (by omega) (by omega), wi (by omega) (by omega)]
      exact r5
    rw [ref01Add.l0_succ]
    simp only [iteA_eq]
    by_cases h1 : i < a.length
    · rw [if_neg (by simp; omega)]
      exact more (.inl h1)
    · by_cases h2 : i < b.length
      · rw [if_pos (by simp; omega), if_neg (by simp; omega)]
        exact more (.inr (.inl h2))
      · rw [if_pos (by simp; omega), if_pos (by simp; omega)]
        rcases hc with h3 | h3
        · subst h3
          rw [if_neg (by decide)]
          refine ⟨out, by omega, hd, ?_, rfl⟩
          rw [val_take_le' a (by omega), val_take_le' b (by omega)] at hv; omega
        · rw [if_pos (by rw [h3]; decide)]
          exact more (.inr (.inr h3))
theorem radd_spec (a b : Nat) (ha : (R a).length < 10000000) (hb : (R b).length < 10000000) : ∃ K, ∀ k, K ≤ k → ∀ F : List Int → Option Res, callT (C k 40 [(.v (.c (.sl (.int .i64) (R a)))), (.v (.c (.sl (.int .i64) (R b))))]) sh40 F = F (R (a + b)) := by
  refine ⟨(R a).length + (R b).length + 10, fun k hk F => ?_⟩
  obtain ⟨k, rfl, hk'⟩ := succOf (n := (R a).length + (R b).length + 9) hk
  obtain ⟨out', r1, r2, r3, r5⟩ := radd_loop (R_dg a) (R_dg b) (by omega) (max (R a).length (R b).length + 1) 0 0 [] (by omega) rfl Dg.nil (.inl rfl) (fun _ => rfl) (by simp [val]) k k (by omega) (by omega)
  rw [R_val, R_val] at r3
  rw [ref01Add.eq, show ref01Add.l0 k k (R a) (R b) 0 0 [] = _ from r5, trim_spec out' (a + b) r2 (by omega) (by omega) k (by omega)]
  rfl
end TrydE
end
section
set_option linter.unusedSimpArgs false
set_option linter.unusedVariables false
namespace TrydE
open Go.Eng Go.Proofs Num
theorem rmul_in {a b : List Int} (ha : Dg 10000 a) (hb : Dg 10000 b) (hN : a.length + b.length + 1 < 100000000) {i : Nat} (hi : i < a.length) {out0 : List Int} (hz0 : ∀ x, i + b.length ≤ x → out0.getD x 0 = 0) :
    ∀ (r j : Nat) (c : Int) (out : List Int), j + r = b.length + 1 → out.length = a.length + b.length + 1 → Dg 10000 out → (0 ≤ c ∧ c < 10000) → (b.length < j → c = 0) →
    val 10000 out + 10000 ^ (i + j) * c = val 10000 out0 + 10000 ^ i * (a.getD i 0 * val 10000 (b.take j)) → (∀ x, i + j ≤ x → out.getD x 0 = out0.getD x 0) → ∀ k n n0, 2 ≤ k → r + 1 ≤ n →
    ∃ (out' : List Int), out'.length = a.length + b.length + 1 ∧ Dg 10000 out' ∧ val 10000 out' = val 10000 out0 + 10000 ^ i * (a.getD i 0 * val 10000 b) ∧ (∀ x, i + 1 + b.length ≤ x → out'.getD x 0 = 0) ∧
      ref01Mul.l1 k n n0 a b (i : Int) c (j : Int) out = ref01Mul.l0 k n0 a b ((i + 1 : Nat) : Int) out' := by
  intro r
  induction r with
  | zero =>
    intro j c out hj ho hd hc hc0 hv hz k n n0 hk hn
    obtain ⟨n, rfl, hn'⟩ := succOf hn
    have c0 := hc0 (by omega)
    subst c0
    refine ⟨out, ho, hd, ?_, ?_, ?_⟩
    · rw [val_take_le' b (by omega)] at hv; omega
    · intro x hx; rw [hz x (by omega), hz0 x (by omega)]
    · rw [ref01Mul.l1_succ]
      simp only [iteA_eq]
      rw [if_pos (by simp; omega), if_neg (by decide), wi (by omega) (by omega)]
      rfl
  | succ r ih =>
    intro j c out hj ho hd hc hc0 hv hz k n n0 hk hn
    obtain ⟨n, rfl, hn'⟩ := succOf hn
    have xa := ha.getD (by decide) i
    have xb := hb.getD (by decide) j
    have xo := hd.getD (by decide) (i + j)
    have t0 : 0 ≤ a.getD i 0 * b.getD j 0 := Int.mul_nonneg xa.1 xb.1
    have t1 : a.getD i 0 * b.getD j 0 ≤ 9999 * 9999 := Int.mul_le_mul (by omega) (by omega) xb.1 (by decide)
    have hlt : i + j < out.length := by omega
    have more : ∃ (out' : List Int), out'.length = a.length + b.length + 1 ∧ Dg 10000 out' ∧ val 10000 out' = val 10000 out0 + 10000 ^ i * (a.getD i 0 * val 10000 b) ∧ (∀ x, i + 1 + b.length ≤ x → out'.getD x 0 = 0) ∧
      ref01Mul.j9 k n n0 a b (i : Int) c (j : Int) out = ref01Mul.l0 k n0 a b ((i + 1 : Nat) : Int) out' := by
      generalize hT : a.getD i 0 * b.getD j 0 = T at *
      have hcz : b.length < j + 1 → (out.getD (i + j) 0 + T + c) / 10000 = 0 := by
        intro h
        have h1 : b.getD j 0 = 0 := by rw [List.getD_eq_getElem?_getD, List.getElem?_eq_none (by omega)]; rfl
        have h2 : out.getD (i + j) 0 = 0 := by rw [hz _ (Nat.le_refl _), hz0 _ (by omega)]
        rw [h2, ← hT, h1, Int.mul_zero]; omega
      obtain ⟨out', r1, r2, r3, r4, r5⟩ := ih (j + 1) ((out.getD (i + j) 0 + T + c) / 10000) (out.set (i + j) ((out.getD (i + j) 0 + T + c) % 10000)) (by omega) (by simpa using ho) (hd.set _ (by omega) (by omega)) (by omega) hcz (by
        rw [val_set _ _ _ hlt, val_take_succ, ← Nat.add_assoc, Int.pow_succ]
        have e : (out.getD (i + j) 0 + T + c) % 10000 + 10000 * ((out.getD (i + j) 0 + T + c) / 10000) = out.getD (i + j) 0 + T + c := Int.emod_add_mul_ediv _ _
        have := congrArg (10000 ^ (i + j) * ·) e
        simp only [Int.mul_add, ← Int.mul_assoc] at this
        have e2 : 10000 ^ i * (a.getD i 0 * (val 10000 (b.take j) + 10000 ^ j * b.getD j 0)) = 10000 ^ i * (a.getD i 0 * val 10000 (b.take j)) + 10000 ^ (i + j) * T := by
          rw [← hT, Int.pow_add, Int.mul_add, Int.mul_add]; congr 1; ac_rfl
        rw [e2, Int.mul_sub]
        omega) (by
        intro x hx
        rw [getD_set_ne (by omega), hz x (by omega)]) k n n0 hk hn'
      refine ⟨out', r1, r2, r3, r4, ?_⟩
      have w1 : Go.IntKind.i64.wrap ((i : Int) + (j : Int)) = ((i + j : Nat) : Int) := by rw [wi (by omega) (by omega)]; omega
      rw [ref01Mul.j9_eq, at_spec _ _ k (by omega)]
      simp only [iteA_eq, w1, Int.toNat_natCast]
      rw [if_pos (by omega), if_pos (by omega), hT, wi (x := T) (by omega) (by omega), wi (x := out.getD (i + j) 0 + T) (by omega) (by omega), wi (x := out.getD (i + j) 0 + T + c) (by omega) (by omega), Int.tdiv_eq_ediv_of_nonneg (by omega), Int.tmod_eq_emod_of_nonneg (by omega), wi (x := (out.getD (i + j) 0 + T + c) / 10000) (by omega) (by omega), wi (x := (j : Int) + 1) (by omega) (by omega), if_pos (by omega)]
      exact r5
    rw [ref01Mul.l1_succ]
    simp only [iteA_eq]
    by_cases h2 : j < b.length
    · rw [if_neg (by simp; omega)]
      exact more
    · rw [if_pos (by simp; omega)]
      by_cases h3 : 0 < c
      · rw [if_pos (by simp; omega)]
        exact more
      · rw [if_neg (by simp; omega)]
        have c0 : c = 0 := by omega
        subst c0
        refine ⟨out, ho, hd, ?_, ?_, ?_⟩
        · rw [val_take_le' b (by omega)] at hv; omega
        · intro x hx; rw [hz x (by omega), hz0 x (by omega)]
        · rw [wi (by omega) (by omega)]; rfl
theorem rmul_out {a b : List Int} (ha : Dg 10000 a) (hb : Dg 10000 b) (hN : a.length + b.length + 1 < 100000000) : ∀ (r i : Nat) (out : List Int), i + r = a.length → out.length = a.length + b.length + 1 → Dg 10000 out →
    val 10000 out = val 10000 (a.take i) * val 10000 b → (∀ x, i + b.length ≤ x → out.getD x 0 = 0) → ∀ k n, b.length + 4 ≤ k → r + 1 ≤ n →
    ∃ (out' : List Int), out'.length = a.length + b.length + 1 ∧ Dg 10000 out' ∧ val 10000 out' = val 10000 a * val 10000 b ∧
      ref01Mul.l0 k n a b (i : Int) out = callT (C k 62 [(.v (.c (.sl (.int .i64) out')))]) sh62 fun (y1 : List Int) => (some ⟨[(.v (.c (.sl (.int .i64) y1)))], []⟩) := by
  intro r
  induction r with
  | zero =>
    intro i out hi ho hd hv hz k n hk hn
    obtain ⟨n, rfl, hn'⟩ := succOf hn
    refine ⟨out, ho, hd, ?_, ?_⟩
    · rw [val_take_le' a (by omega)] at hv; exact hv
    · rw [ref01Mul.l0_succ]
      simp only [iteA_eq]
      rw [if_neg (by simp; omega)]
  | succ r ih =>
    intro i out hi ho hd hv hz k n hk hn
    obtain ⟨n, rfl, hn'⟩ := succOf hn
    obtain ⟨out1, s1, s2, s3, s4, s5⟩ := rmul_in ha hb hN (i := i) (by omega) (out0 := out) hz (b.length + 1) 0 0 out (by omega) ho hd (by omega) (fun h => rfl) (by simp [val]) (fun _ _ => rfl) k k n (by omega) (by omega)
    obtain ⟨out', r1, r2, r3, r5⟩ := ih (i + 1) out1 (by omega) s1 s2 (by
      rw [s3, hv, val_take_succ, Int.add_mul, Int.mul_assoc]) s4 k n hk hn'
    refine ⟨out', r1, r2, r3, ?_⟩
    rw [← r5, ← s5, ref01Mul.l0_succ]
    simp only [iteA_eq]
    rw [if_pos (by simp; omega)]
    rfl
theorem rmul_spec (a b : Nat) (ha : (R a).length < 10000000) (hb : (R b).length < 10000000) : ∃ K, ∀ k, K ≤ k → ∀ F : List Int → Option Res, callT (C k 38 [(.v (.c (.sl (.int .i64) (R a)))), (.v (.c (.sl (.int .i64) (R b))))]) sh38 F = F (R (a * b)) := by
  refine ⟨(R a).length + (R b).length + 10, fun k hk F => ?_⟩
  obtain ⟨k, rfl, hk'⟩ := succOf (n := (R a).length + (R b).length + 9) hk
  have hN : Go.IntKind.i64.wrap (Go.IntKind.i64.wrap (((R a).length : Int) + ((R b).length : Int)) + 1) = (((R a).length + (R b).length + 1 : Nat) : Int) := by rw [wi (x := ((R a).length : Int) + _) (by omega) (by omega), wi (by omega) (by omega)]; omega
  rw [ref01Mul.eq]
  simp only [iteA_eq, hN, Int.toNat_natCast]
  rw [if_pos (by omega)]
  obtain ⟨out', r1, r2, r3, r5⟩ := rmul_out (R_dg a) (R_dg b) (by omega) (R a).length 0 (List.replicate ((R a).length + (R b).length + 1) 0) (by omega) (by simp) (Dg.replicate (by decide) _) (by rw [val_replicate]; simp [val]) (by
    intro x _
    rw [List.getD_eq_getElem?_getD, List.getElem?_replicate]; split <;> rfl) k k (by omega) (by omega)
  rw [show ref01Mul.l0 k k (R a) (R b) 0 (List.replicate ((R a).length + (R b).length + 1) 0) = _ from r5]
  rw [R_val, R_val] at r3
  rw [trim_spec out' (a * b) r2 (by rw [r3, Int.natCast_mul]) (by omega) k (by omega)]
  rfl
end TrydE
end
section
set_option linter.unusedSimpArgs false
set_option linter.unusedVariables false
namespace TrydE
open Go.Eng Go.Proofs Num
theorem and_mask16 {x : Int} (hx : 0 ≤ x ∧ x < (18446744073709551616 : Int)) : andI .u64 x 65535 = x % 65536 := by
  unfold andI
  rw [BitVec.toNat_and, natOfInt64 hx, natOfInt64 (x := 65535) (by decide), show (65535 : Int).toNat = 2 ^ 16 - 1 from rfl, Nat.and_two_pow_sub_one_eq_mod, wu]
  omega
theorem R_len_of {n j : Nat} (h : n < 18446744073709551616 ^ j) : (R n).length ≤ 5 * j := R_len (Nat.lt_of_lt_of_le h (by rw [Nat.pow_mul]; exact Nat.pow_le_pow_left (by decide) _))
/-- sixteen bits more -/
theorem rof_step (l : List Int) (i : Nat) (hi : i < l.length) (x : Nat) (hx : x < 18446744073709551616) (hxi : l.getD i 0 = x) (h : Nat) (hh : h ≤ 3) (v : Nat) (hv : (R v).length < 1000000) :
    ∃ K, ∀ k, K ≤ k → ∀ n n0, ref01Of.l1 k (n + 1) n0 l (R v) (R 65536) (i : Int) (h : Int) = ref01Of.l1 k n n0 l (R (v * 65536 + x / 2 ^ (16 * h) % 65536)) (R 65536) (i : Int) ((h : Int) - 1) := by
  have h65 : (R 65536).length ≤ 2 := R_len (by decide)
  have hd : x / 2 ^ (16 * h) % 65536 < 65536 := Nat.mod_lt _ (by decide)
  have hm : (R (v * 65536)).length ≤ (R v).length + 2 := R_len (by
    rw [Nat.pow_add]
    exact Nat.lt_of_lt_of_le (Nat.mul_lt_mul_of_pos_right (R_lt v) (by decide)) (Nat.mul_le_mul_left _ (by decide)))
  obtain ⟨K1, hK1⟩ := rsmall_spec (x / 2 ^ (16 * h) % 65536) (by omega)
  obtain ⟨K2, hK2⟩ := rmul_spec v 65536 (by omega) (by omega)
  obtain ⟨K3, hK3⟩ := radd_spec (v * 65536) (x / 2 ^ (16 * h) % 65536) (by omega) (by
    have : (R (x / 2 ^ (16 * h) % 65536)).length ≤ 2 := R_len (by omega)
    omega)
  refine ⟨K1 + K2 + K3, fun k hk n n0 => ?_⟩
  have w : Go.IntKind.i64.wrap (16 * (h : Int)) = ((16 * h : Nat) : Int) := by rw [wi (by omega) (by omega)]; omega
  have e : Go.IntKind.i64.wrap (andI .u64 (shrI .u64 (x : Int) ((16 * h : Nat) : Int)) 65535) = ((x / 2 ^ (16 * h) % 65536 : Nat) : Int) := by
    rw [shr_eq (16 * h) (by omega)]
    have e1 : (x : Int) / 2 ^ (16 * h) = ((x / 2 ^ (16 * h) : Nat) : Int) := by rw [Int.natCast_ediv, Int.natCast_pow]; rfl
    have e2 : x / 2 ^ (16 * h) ≤ x := Nat.div_le_self _ _
    rw [e1]
    generalize x / 2 ^ (16 * h) = y at e2 ⊢
    rw [and_mask16 (by omega), wi (by omega) (by omega)]; omega
  rw [ref01Of.l1_succ]
  simp only [iteA_eq, w, Int.toNat_natCast]
  rw [if_pos (by simp), if_pos (by omega), if_neg (by omega), hxi, e, hK1 k (by omega), hK2 k (by omega), hK3 k (by omega), wi (by omega) (by omega)]
theorem rof_limb (l : List Int) (i : Nat) (hi : i < l.length) (x : Nat) (hx : x < 18446744073709551616) (hxi : l.getD i 0 = x) (v : Nat) (hv : (R v).length < 900000) (hil : (l.length : Int) < 1000000) :
    ∃ K, ∀ k, K ≤ k → ∀ n n0, 5 ≤ n → ref01Of.l1 k n n0 l (R v) (R 65536) (i : Int) 3 = ref01Of.l0 k n0 l (R (v * 18446744073709551616 + x)) (R 65536) ((i : Int) - 1) := by
  have grow : ∀ u d : Nat, d < 65536 → (R (u * 65536 + d)).length ≤ (R u).length + 2 := fun u d hd => R_len (by
    have := R_lt u
    have h1 : (u + 1) * 65536 ≤ 10000 ^ (R u).length * 10000 ^ 2 := Nat.mul_le_mul (by omega) (by decide)
    rw [Nat.pow_add]; omega)
  have md : ∀ h, x / 2 ^ (16 * h) % 65536 < 65536 := fun h => Nat.mod_lt _ (by decide)
  have g3 := grow v _ (md 3)
  have g2 := grow (v * 65536 + x / 2 ^ (16 * 3) % 65536) _ (md 2)
  have g1 := grow ((v * 65536 + x / 2 ^ (16 * 3) % 65536) * 65536 + x / 2 ^ (16 * 2) % 65536) _ (md 1)
  obtain ⟨K3, s3⟩ := rof_step l i hi x hx hxi 3 (by omega) v (by omega)
  obtain ⟨K2, s2⟩ := rof_step l i hi x hx hxi 2 (by omega) (v * 65536 + x / 2 ^ (16 * 3) % 65536) (by omega)
  obtain ⟨K1, s1⟩ := rof_step l i hi x hx hxi 1 (by omega) ((v * 65536 + x / 2 ^ (16 * 3) % 65536) * 65536 + x / 2 ^ (16 * 2) % 65536) (by omega)
  obtain ⟨K0, s0⟩ := rof_step l i hi x hx hxi 0 (by omega) (((v * 65536 + x / 2 ^ (16 * 3) % 65536) * 65536 + x / 2 ^ (16 * 2) % 65536) * 65536 + x / 2 ^ (16 * 1) % 65536) (by omega)
  refine ⟨K0 + K1 + K2 + K3, fun k hk n n0 hn => ?_⟩
  obtain ⟨n, rfl⟩ : ∃ m, n = m + 1 + 1 + 1 + 1 + 1 := ⟨n - 5, by omega⟩
  have t3 := s3 k (by omega) (n + 1 + 1 + 1 + 1) n0
  have t2 := s2 k (by omega) (n + 1 + 1 + 1) n0
  have t1 := s1 k (by omega) (n + 1 + 1) n0
  have t0 := s0 k (by omega) (n + 1) n0
  rw [show ref01Of.l1 k (n + 1 + 1 + 1 + 1 + 1) n0 l (R v) (R 65536) (i : Int) 3 = _ from t3]
  rw [show ∀ q, ref01Of.l1 k (n + 1 + 1 + 1 + 1) n0 l q (R 65536) (i : Int) (((3 : Nat) : Int) - 1) = ref01Of.l1 k (n + 1 + 1 + 1 + 1) n0 l q (R 65536) (i : Int) ((2 : Nat) : Int) from fun _ => rfl, t2]
  rw [show ∀ q, ref01Of.l1 k (n + 1 + 1 + 1) n0 l q (R 65536) (i : Int) (((2 : Nat) : Int) - 1) = ref01Of.l1 k (n + 1 + 1 + 1) n0 l q (R 65536) (i : Int) ((1 : Nat) : Int) from fun _ => rfl, t1]
  rw [show ∀ q, ref01Of.l1 k (n + 1 + 1) n0 l q (R 65536) (i : Int) (((1 : Nat) : Int) - 1) = ref01Of.l1 k (n + 1 + 1) n0 l q (R 65536) (i : Int) ((0 : Nat) : Int) from fun _ => rfl, t0]
  rw [ref01Of.l1_succ]
  simp only [iteA_eq]
  rw [if_neg (by decide), wi (by omega) (by omega)]
  have fin : (((v * 65536 + x / 2 ^ (16 * 3) % 65536) * 65536 + x / 2 ^ (16 * 2) % 65536) * 65536 + x / 2 ^ (16 * 1) % 65536) * 65536 + x / 2 ^ (16 * 0) % 65536 = v * 18446744073709551616 + x := by
    simp only [show (2 : Nat) ^ (16 * 3) = 281474976710656 from by decide, show (2 : Nat) ^ (16 * 2) = 4294967296 from by decide, show (2 : Nat) ^ (16 * 1) = 65536 from by decide, show (2 : Nat) ^ (16 * 0) = 1 from by decide]
    omega
  rw [fin]
theorem rof_loop (l : List Int) (hl : Dg (18446744073709551616 : Int) l) (hlen : l.length < 1000) : ∀ (j : Nat), j ≤ l.length → ∀ v : Nat, val (18446744073709551616 : Int) (l.drop j) = v → 
    ∃ K, ∀ k, K ≤ k → ∀ n, K ≤ n → ∀ N : Nat, val (18446744073709551616 : Int) l = N → ref01Of.l0 k n l (R v) (R 65536) ((j : Int) - 1) = some ⟨[(.v (.c (.sl (.int .i64) (R N))))], []⟩ := by
  intro j
  induction j with
  | zero =>
    intro hj v hv
    refine ⟨1, fun k hk n hn N hN => ?_⟩
    obtain ⟨n, rfl, hn'⟩ := succOf (n := 0) hn
    have : v = N := by rw [List.drop_zero, hN] at hv; omega
    subst this
    rw [ref01Of.l0_succ]
    simp only [iteA_eq]
    rw [if_neg (by decide)]
  | succ j ih =>
    intro hj v hv
    have xj := hl.getD (by decide) j
    obtain ⟨x, hx⟩ : ∃ x : Nat, l.getD j 0 = x := ⟨(l.getD j 0).toNat, by omega⟩
    have hvlt : v < 18446744073709551616 ^ l.length := by
      have h1 := val_lt (B := (18446744073709551616 : Int)) (by decide) (hl.drop (j + 1))
      rw [hv, List.length_drop] at h1
      have h2 : (18446744073709551616 : Int) ^ (l.length - (j + 1)) ≤ (18446744073709551616 : Int) ^ l.length := pow_mono (by decide) (by omega)
      have h3 : ((18446744073709551616 ^ l.length : Nat) : Int) = (18446744073709551616 : Int) ^ l.length := by rw [Int.natCast_pow]; rfl
      omega
    have hRv := R_len_of hvlt
    obtain ⟨K1, hK1⟩ := rof_limb l j (by omega) x (by omega) hx v (by omega) (by omega)
    obtain ⟨K2, hK2⟩ := ih (by omega) (v * 18446744073709551616 + x) (by rw [val_drop l j (by omega), hv, hx, Int.natCast_add, Int.natCast_mul, Int.mul_comm, Int.add_comm]; rfl)
    refine ⟨K1 + K2 + 6, fun k hk n hn N hN => ?_⟩
    obtain ⟨n, rfl, hn'⟩ := succOf (n := K1 + K2 + 5) hn
    rw [ref01Of.l0_succ]
    simp only [iteA_eq]
    rw [if_pos (by simp), show (((j + 1 : Nat) : Int) - 1) = (j : Int) by omega, hK1 k (by omega) k n (by omega)]
    exact hK2 k (by omega) n (by omega) N hN
theorem rof_spec (l : List Int) (N : Nat) (hl : Dg (18446744073709551616 : Int) l) (hv : val (18446744073709551616 : Int) l = N) (hlen : l.length < 1000) : ∃ K, ∀ k, K ≤ k → ∀ F : List Int → Option Res, callT (C k 14 [(.v (.c (.sl (.int .u64) l)))]) sh14 F = F (R N) := by
  obtain ⟨K1, hK1⟩ := rsmall_spec 65536 (by decide)
  obtain ⟨K, hK⟩ := rof_loop l hl hlen l.length (Nat.le_refl _) 0 (by rw [List.drop_of_length_le (Nat.le_refl _)]; rfl)
  refine ⟨K1 + K + 1, fun k hk F => ?_⟩
  obtain ⟨k, rfl, hk'⟩ := succOf (n := K1 + K) hk
  rw [ref01Of.eq, show ((65536 : Int)) = ((65536 : Nat) : Int) from rfl, hK1 k (by omega), wi (by omega) (by omega), show ([] : List Int) = R 0 from rfl, hK k (by omega) k (by omega) N hv]
  rfl
end TrydE
end
section
set_option linter.unusedSimpArgs false
set_option linter.unusedVariables false
namespace TrydE
open Go.Eng Go.Proofs Num
theorem rpow_loop (x : Nat) (e : Nat) (he : e < 1000) (hx : (R x).length < 1000) : ∀ (r i : Nat), i + r = e → ∃ K, ∀ k, K ≤ k → ∀ n, K ≤ n → ref03Pow.l0 k n (R x) (e : Int) (R (x ^ i)) (i : Int) = some ⟨[(.v (.c (.sl (.int .i64) (R (x ^ e)))))], []⟩ := by
  have hlen : ∀ i, i ≤ e → (R (x ^ i)).length ≤ 1000000 := by
    intro i hi
    have hE : ∀ E, E = 1000000 → (R (x ^ i)).length ≤ E := by
      intro E hE
      refine R_len (Nat.lt_of_le_of_lt (Nat.pow_le_pow_left (Nat.le_of_lt (R_lt x)) i) ?_)
      rw [← Nat.pow_mul]
      refine Nat.pow_lt_pow_right (by decide) ?_
      have : (R x).length * i ≤ 999 * 999 := Nat.mul_le_mul (by omega) (by omega)
      omega
    exact hE 1000000 rfl
  intro r
  induction r with
  | zero =>
    intro i hi
    refine ⟨1, fun k hk n hn => ?_⟩
    obtain ⟨n, rfl, hn'⟩ := succOf (n := 0) hn
    have : i = e := by omega
    subst this
    rw [ref03Pow.l0_succ]
    simp only [iteA_eq]
    rw [if_neg (by simp)]
  | succ r ih =>
    intro i hi
    obtain ⟨K2, hK2⟩ := ih (i + 1) (by omega)
    obtain ⟨K1, hK1⟩ := rmul_spec (x ^ i) x (by have := hlen i (by omega); omega) (by omega)
    refine ⟨K1 + K2 + 1, fun k hk n hn => ?_⟩
    obtain ⟨n, rfl, hn'⟩ := succOf (n := K1 + K2) hn
    rw [ref03Pow.l0_succ]
    simp only [iteA_eq]
    rw [if_pos (by simp; omega), hK1 k (by omega), wi (by omega) (by omega), ← Nat.pow_succ]
    exact hK2 k (by omega) n (by omega)
theorem rpow_spec (x e : Nat) (he : e < 1000) (hx : (R x).length < 1000) : ∃ K, ∀ k, K ≤ k → ∀ F : List Int → Option Res, callT (C k 13 [(.v (.c (.sl (.int .i64) (R x)))), (.v (.c (.int .i64 (e : Int))))]) sh13 F = F (R (x ^ e)) := by
  obtain ⟨K, hK⟩ := rpow_loop x e he hx e 0 (by omega)
  refine ⟨K + 1, fun k hk F => ?_⟩
  obtain ⟨k, rfl, hk'⟩ := succOf (n := K) hk
  have h1 : ([1] : List Int) = R (x ^ 0) := by rw [Nat.pow_zero]; rfl
  rw [ref03Pow.eq, h1, show ref03Pow.l0 k k (R x) (e : Int) (R (x ^ 0)) 0 = _ from hK k hk' k hk']
  rfl
theorem equal_loop (a b : List Int) (he : a.length = b.length) (hl : a.length < 1000000000) : ∀ (r i : Nat), i + r = a.length → ∀ k n, r + 1 ≤ n → ∀ F : Bool → Option Res, callT (slicesEqual37.l0 k n a b (a.length : Int) (i : Int)) sh37 F = F (decide (a.drop i = b.drop i)) := by
  intro r
  induction r with
  | zero =>
    intro i hi k n hn F
    obtain ⟨n, rfl, hn'⟩ := succOf hn
    rw [slicesEqual37.l0_succ]
    simp only [iteA_eq]
    rw [if_neg (by simp; omega), List.drop_of_length_le (by omega), List.drop_of_length_le (by omega)]
    rfl
  | succ r ih =>
    intro i hi k n hn F
    obtain ⟨n, rfl, hn'⟩ := succOf hn
    have ga : a.getD i 0 = a[i] := by simp [List.getD_eq_getElem?_getD, List.getElem?_eq_getElem (show i < a.length by omega)]
    have gb : b.getD i 0 = b[i] := by simp [List.getD_eq_getElem?_getD, List.getElem?_eq_getElem (show i < b.length by omega)]
    rw [slicesEqual37.l0_succ]
    simp only [iteA_eq, Int.toNat_natCast, ga, gb]
    rw [if_pos (by simp; omega), if_pos (by omega), if_pos (by omega), List.drop_eq_getElem_cons (show i < a.length by omega), List.drop_eq_getElem_cons (show i < b.length by omega)]
    by_cases h : a[i] = b[i]
    · rw [if_neg (by simpa using h), wi (by omega) (by omega)]
      have e := ih (i + 1) (by omega) k n hn' F
      rw [show ((i : Int) + 1) = ((i + 1 : Nat) : Int) from rfl, e]
      simp only [List.cons.injEq, h, true_and]
    · rw [if_pos (by simpa using h)]
      have : decide (a[i] :: a.drop (i + 1) = b[i] :: b.drop (i + 1)) = false := by simp only [List.cons.injEq, h, false_and, decide_false]
      rw [this]; rfl
theorem equal_spec (a b : List Int) (hl : a.length < 100000000) : ∀ k, a.length + 3 ≤ k → ∀ F : Bool → Option Res, callT (C k 37 [(.v (.c (.sl (.int .i64) a))), (.v (.c (.sl (.int .i64) b)))]) sh37 F = F (decide (a = b)) := by
  intro k hk F
  obtain ⟨k, rfl, hk'⟩ := succOf (n := a.length + 2) hk
  rw [slicesEqual37.eq]
  simp only [iteA_eq]
  by_cases h : a.length = b.length
  · rw [if_neg (by simp; omega), show slicesEqual37.l0 k k a b (a.length : Int) 0 = slicesEqual37.l0 k k a b (a.length : Int) ((0 : Nat) : Int) from rfl, equal_loop a b h (by omega) a.length 0 (by omega) k k (by omega)]
    rfl
  · rw [if_pos (by simp; omega)]
    have : decide (a = b) = false := by rw [decide_eq_false_iff_not]; intro hx; exact h (by rw [hx])
    rw [this]; rfl
theorem same_spec (m : Nat) (w : List Int) (hm : (L m).length < 1000) : ∃ K, ∀ k, K ≤ k → ∀ F : Bool → Option Res, callT (C k 12 [(.v (.agg [(.sl (.int .u64) (L m))])), (.v (.c (.sl (.int .i64) w)))]) sh12 F = F (decide (R m = w)) := by
  obtain ⟨K1, hK1⟩ := rof_spec (L m) m (L_dg m) (L_val m) hm
  have hR := R_len_of (L_lt m)
  refine ⟨K1 + (R m).length + 10, fun k hk F => ?_⟩
  obtain ⟨k, rfl, hk'⟩ := succOf (n := K1 + (R m).length + 9) hk
  rw [law03Same.eq, limbs_spec _ (by omega) k (by omega), hK1 k (by omega), equal_spec _ _ (by omega) k (by omega)]
  rfl
theorem repeat_spec (s : ByteArray) (n : Nat) (hn : n ≤ 1048576) (hs : s.size ≤ 1048576) : ∀ k, 1 ≤ k → ∀ F : ByteArray → Option Res, callT (C k 11 [(.v (.c (.str s))), (.v (.c (.int .i64 (n : Int))))]) sh11 F = F (repS n s) := by
  intro k hk F
  obtain ⟨k, rfl, hk'⟩ := succOf hk
  have h : (decide (0 ≤ (n : Int)) && decide ((n : Int) ≤ 1048576) && decide (s.size ≤ 1048576)) = true := by simp [hs]; omega
  have : C (k + 1) 11 [(.v (.c (.str s))), (.v (.c (.int .i64 (n : Int))))] = some ⟨[.v (.c (.str (repS n s)))], []⟩ := by
    rw [C_X (h := xRepeat) rfl]
    unfold xRepeat
    simp only [h, Int.toNat_natCast]
  rw [this]; rfl
/-! ## Ten's text -/
theorem dig_ten : ∀ e : Nat, dig 10 (10 ^ e) = List.replicate e 0 ++ [1]
  | 0 => by rw [Nat.pow_zero, dig_pos (by decide) (by decide)]; rfl
  | e + 1 => by
    rw [dig_pos (by decide) (Nat.pow_pos (by decide)), Nat.pow_succ, Nat.mul_mod_left, Nat.mul_div_cancel _ (by decide), dig_ten e]
    rfl
theorem repS_eq : ∀ n, repS n ⟨#[48]⟩ = bytesS (List.replicate n 48)
  | 0 => rfl
  | n + 1 => by rw [repS, repS_eq n, List.replicate_succ, show (48 : Int) :: List.replicate n 48 = [48] ++ List.replicate n 48 from rfl, bytesS_append]; rfl
theorem dec_ten (e : Nat) : dec (10 ^ e) = ⟨#[49]⟩ ++ repS e ⟨#[48]⟩ := by
  have hp : 10 ^ e ≠ 0 := Nat.pos_iff_ne_zero.1 (Nat.pow_pos (by decide))
  unfold dec
  rw [if_neg hp, txt, dig_ten, repS_eq]
  unfold asc
  rw [List.map_append, List.map_replicate, List.reverse_append, List.reverse_replicate, bytesS_append]
  rfl
end TrydE
end
section
set_option linter.unusedSimpArgs false
set_option linter.unusedVariables false
namespace TrydE
open Go.Eng Go.Proofs Num
theorem zero_of {n : Nat} (h : n = 0) : decide (L n = []) = true := by rw [h]; rfl
theorem law_j22 (p0 : List Int) (x : Nat) (e : Int) (expP : Int) (hp0 : Dg (18446744073709551616 : Int) p0) (hx : val (18446744073709551616 : Int) p0 = x) (hl : p0.length ≤ 3) (hxl : x < 18446744073709551616 ^ 3) (heP : expP = powS x e) :
    ∃ K, ∀ k, K ≤ k → ∀ n (i : Nat) (l : List Int), i < 10 → law03DigitsPow.j22 k n p0 e expP 2 (i : Int) (L x) (L (powV x e)) l = law03DigitsPow.l0 k n p0 2 ((i + 1 : Nat) : Int) (L x) l := by
  have w : ∀ i : Nat, i < 10 → Go.IntKind.i64.wrap ((i : Int) + 1) = ((i + 1 : Nat) : Int) := fun i hi => by rw [wi (by omega) (by omega)]; omega
  by_cases h0 : expP = 0
  · by_cases h1 : e < 30
    · have hs : powS x e = 0 := by rw [← heP, h0]
      have he0 : 0 ≤ e := by
        rcases Int.lt_or_le e 0 with h | h
        · rw [powS, if_pos h] at hs; omega
        · exact h
      obtain ⟨m, rfl⟩ : ∃ m : Nat, e = m := ⟨e.toNat, by omega⟩
      have hv : powV x m = x ^ m := by rw [powV, if_pos hs]; rfl
      have hRx : (R x).length ≤ 15 := R_len_of hxl
      have hLx : (L (x ^ m)).length ≤ 90 := L_len (Nat.lt_of_le_of_lt (Nat.pow_le_pow_left (Nat.le_of_lt hxl) m) (by
        rw [← Nat.pow_mul]; exact Nat.pow_lt_pow_right (by decide) (by omega)))
      obtain ⟨K1, hK1⟩ := rof_spec p0 x hp0 hx (by omega)
      obtain ⟨K2, hK2⟩ := rpow_spec x m (by omega) (by omega)
      obtain ⟨K3, hK3⟩ := same_spec (x ^ m) (R (x ^ m)) (by omega)
      refine ⟨K1 + K2 + K3, fun k hk n i l hi => ?_⟩
      rw [law03DigitsPow.j22_eq]
      simp only [iteA_eq]
      rw [if_pos (by simpa using h0), if_pos (by simpa using h1), hK1 k (by omega), hK2 k (by omega), hv, hK3 k (by omega), if_neg (by simp), w i hi]
    · refine ⟨0, fun k hk n i l hi => ?_⟩
      rw [law03DigitsPow.j22_eq]
      simp only [iteA_eq]
      rw [if_pos (by simpa using h0), if_neg (by simpa using h1), w i hi]
  · refine ⟨0, fun k hk n i l hi => ?_⟩
    rw [law03DigitsPow.j22_eq]
    simp only [iteA_eq]
    rw [if_neg (by simpa using h0), w i hi]
theorem law_j20 (p0 : List Int) (x : Nat) (e : Int) (expP expT : Int) (hp0 : Dg (18446744073709551616 : Int) p0) (hx : val (18446744073709551616 : Int) p0 = x) (hl : p0.length ≤ 3) (hxl : x < 18446744073709551616 ^ 3) (heP : expP = powS x e) (heT : expT = tenS e) :
    ∃ K, ∀ k, K ≤ k → ∀ n (i : Nat) (l : List Int), i < 10 → law03DigitsPow.j20 k n p0 e expP expT 2 (i : Int) (L x) (L (powV x e)) (L (tenV e)) l = law03DigitsPow.l0 k n p0 2 ((i + 1 : Nat) : Int) (L x) l := by
  obtain ⟨K0, hK0⟩ := law_j22 p0 x e expP hp0 hx hl hxl heP
  by_cases h0 : expT = 0
  · have hs : tenS e = 0 := by rw [← heT, h0]
    have he : 0 ≤ e ∧ e ≤ 4096 := by
      unfold tenS at hs
      split at hs
      · omega
      · split at hs <;> omega
    obtain ⟨m, rfl⟩ : ∃ m : Nat, e = m := ⟨e.toNat, by omega⟩
    have hv : tenV m = 10 ^ m := by rw [tenV, if_pos hs]; rfl
    have hlen : (L (10 ^ m)).length < 1000000 := Nat.lt_of_le_of_lt (L_mono (Nat.pow_le_pow_right (by decide) (show m ≤ 4096 by omega))) (by
      have h4 := (show ∀ E : Nat, 10 ^ E ≤ 2 ^ (4 * E) from fun E => by rw [Nat.pow_mul]; exact Nat.pow_le_pow_left (by decide) E) 4096
      rw [show 4 * 4096 = 64 * 256 from rfl] at h4
      have := L_mono h4
      have := L_pow2 256
      omega)
    obtain ⟨K1, hK1⟩ := print_spec (10 ^ m) hlen
    have hsz : (repS m ⟨#[48]⟩).size = m := by rw [repS_eq, bytesS_size, List.length_replicate]
    refine ⟨K0 + K1 + 1, fun k hk n i l hi => ?_⟩
    rw [law03DigitsPow.j20_eq]
    simp only [iteA_eq]
    rw [if_pos (by simpa using h0), hv, hK1 k (by omega), repeat_spec _ m (by omega) (by decide) k (by omega), if_pos (by rw [hsz]; omega), dec_ten, if_neg (by simp)]
    exact hK0 k (by omega) n i l hi
  · refine ⟨K0, fun k hk n i l hi => ?_⟩
    rw [law03DigitsPow.j20_eq]
    simp only [iteA_eq]
    rw [if_neg (by simpa using h0)]
    exact hK0 k hk n i l hi
theorem law_j18 (p0 : List Int) (x : Nat) (e : Int) (expP expT : Int) (hp0 : Dg (18446744073709551616 : Int) p0) (hx : val (18446744073709551616 : Int) p0 = x) (hl : p0.length ≤ 3) (hxl : x < 18446744073709551616 ^ 3) (heP : expP = powS x e) (heT : expT = tenS e) :
    ∃ K, ∀ k, K ≤ k → ∀ n (i : Nat) (l : List Int), i < 10 → law03DigitsPow.j18 k n p0 e (powS x e) (tenS e) expP expT 2 (i : Int) (L x) (L (powV x e)) (L (tenV e)) l = law03DigitsPow.l0 k n p0 2 ((i + 1 : Nat) : Int) (L x) l := by
  obtain ⟨K0, hK0⟩ := law_j20 p0 x e expP expT hp0 hx hl hxl heP heT
  refine ⟨K0 + 1, fun k hk n i l hi => ?_⟩
  rw [law03DigitsPow.j18_eq]
  simp only [iteA_eq]
  rw [if_pos (by simp [heP]), if_pos (by simp [heT])]
  by_cases hP : powS x e = 0
  · rw [if_neg (by simp [hP])]
    by_cases hT : tenS e = 0
    · rw [if_neg (by simp [hT])]
      exact hK0 k (by omega) n i l hi
    · rw [if_pos (by simpa using hT), zero_spec _ k (by omega), zero_of (by rw [tenV, if_neg hT]), if_neg (by decide)]
      exact hK0 k (by omega) n i l hi
  · rw [if_pos (by simpa using hP), zero_spec _ k (by omega), zero_of (by rw [powV, if_neg hP]), if_pos (by decide)]
    by_cases hT : tenS e = 0
    · rw [if_neg (by simp [hT])]
      exact hK0 k (by omega) n i l hi
    · rw [if_pos (by simpa using hT), zero_spec _ k (by omega), zero_of (by rw [tenV, if_neg hT]), if_neg (by decide)]
      exact hK0 k (by omega) n i l hi
theorem law_j13 (p0 : List Int) (x : Nat) (e : Int) (expP : Int) (hp0 : Dg (18446744073709551616 : Int) p0) (hx : val (18446744073709551616 : Int) p0 = x) (hl : p0.length ≤ 3) (hxl : x < 18446744073709551616 ^ 3) (heP : expP = powS x e) :
    ∃ K, ∀ k, K ≤ k → ∀ n (i : Nat) (l : List Int), i < 10 → law03DigitsPow.j13 k n p0 e (powS x e) (tenS e) expP 2 (i : Int) (L x) (L (powV x e)) (L (tenV e)) l = law03DigitsPow.l0 k n p0 2 ((i + 1 : Nat) : Int) (L x) l := by
  obtain ⟨K0, hK0⟩ := law_j18 p0 x e expP (tenS e) hp0 hx hl hxl heP rfl
  refine ⟨K0, fun k hk n i l hi => ?_⟩
  rw [law03DigitsPow.j13_eq]
  simp only [iteA_eq]
  by_cases h1 : e < 0
  · have t : tenS e = 2 := by rw [tenS, if_pos h1]
    rw [if_pos (by simpa using h1), ← hK0 k hk n i l hi, t]
  · rw [if_neg (by simpa using h1)]
    by_cases h2 : e > 4096
    · have t : tenS e = 6 := by rw [tenS, if_neg h1, if_pos h2]
      rw [if_pos (by simpa using h2), ← hK0 k hk n i l hi, t]
    · have t : tenS e = 0 := by rw [tenS, if_neg h1, if_neg h2]
      rw [if_neg (by simpa using h2), ← hK0 k hk n i l hi, t]
theorem law_step (p0 : List Int) (x : Nat) (e : Int) (hp0 : Dg (18446744073709551616 : Int) p0) (hx : val (18446744073709551616 : Int) p0 = x) (hl : p0.length ≤ 3) (hxl : x < 18446744073709551616 ^ 3) :
    ∃ K, ∀ k, K ≤ k → ∀ n (i : Nat) (l : List Int), i < 2 → l.length = 2 → l.getD i 0 = e → law03DigitsPow.l0 k (n + 1) p0 2 (i : Int) (L x) l = law03DigitsPow.l0 k n p0 2 ((i + 1 : Nat) : Int) (L x) l := by
  have hLx : (L x).length ≤ 3 := L_len hxl
  obtain ⟨K0, hK0⟩ := law_j13 p0 x e (powS x e) hp0 hx hl hxl rfl
  obtain ⟨K1, hK1⟩ := pow_spec x e (by omega)
  obtain ⟨K2, hK2⟩ := ten_spec e
  refine ⟨K0 + K1 + K2 + 4, fun k hk n i l hi hll hle => ?_⟩
  have hb := bitsV_ok x
  rw [law03DigitsPow.l0_succ]
  simp only [iteA_eq, Int.toNat_natCast, hle]
  rw [if_pos (by simp; omega), if_pos (by omega), hK1 k (by omega), hK2 k (by omega)]
  have fin := hK0 k (by omega) n i l (by omega)
  by_cases h1 : e < 0
  · have t : powS x e = 2 := by rw [powS, if_pos h1]
    rw [if_pos (by simpa using h1)]
    rw [t] at fin ⊢; exact fin
  · rw [if_neg (by simpa using h1)]
    by_cases h2 : e > 1200
    · have t : powS x e = 6 := by rw [powS, if_neg h1, if_pos h2]
      rw [if_neg (by simpa using h2)]
      rw [t] at fin ⊢; exact fin
    · have hm : bitsV x * e ≤ 192 * 1200 := Int.mul_le_mul (by omega) (by omega) (by omega) (by omega)
      have hm0 : 0 ≤ bitsV x * e := Int.mul_nonneg hb.1 (by omega)
      rw [if_pos (by simpa using h2), bits_spec x (by omega) k (by omega), wi (by omega) (by omega)]
      by_cases h3 : bitsV x * e > 262144
      · have t : powS x e = 6 := by rw [powS, if_neg h1, if_neg h2, if_pos h3]
        rw [if_pos (by simpa using h3)]
        rw [t] at fin ⊢; exact fin
      · have t : powS x e = 0 := by rw [powS, if_neg h1, if_neg h2, if_neg h3]
        rw [if_neg (by simpa using h3)]
        rw [t] at fin ⊢; exact fin
theorem law_spec (hw : ∃ K, ∀ k, K ≤ k → ∀ F : Bool → Option Res, callT (C k 15 []) sh15 F = F true) (a0 : List Int) (a1 : Int) (h0 : Dg (18446744073709551616 : Int) a0) (hlen : a0.length < 17592186044417) : ∃ k, C k 3 [(.v (.c (.sl (.int .u64) a0))), (.v (.c (.int .i64 a1)))] = some ⟨[(.v (.c (.bool true)))], []⟩ := by
  have hmin : minI (a0.length : Int) 3 = ((min a0.length 3 : Nat) : Int) := by unfold minI; split <;> omega
  have hp := h0.take (min a0.length 3)
  have hpl : (a0.take (min a0.length 3)).length ≤ 3 := by simp; omega
  generalize hP : a0.take (min a0.length 3) = p0 at hp hpl
  have hv0 := val_nonneg (B := (18446744073709551616 : Int)) (by decide) hp
  obtain ⟨x, hx⟩ : ∃ x : Nat, val (18446744073709551616 : Int) p0 = x := ⟨(val (18446744073709551616 : Int) p0).toNat, by omega⟩
  have hxl : x < 18446744073709551616 ^ 3 := by
    have h1 := val_lt (B := (18446744073709551616 : Int)) (by decide) hp
    have h2 : (18446744073709551616 : Int) ^ p0.length ≤ (18446744073709551616 : Int) ^ 3 := pow_mono (by decide) hpl
    have h3 : ((18446744073709551616 ^ 3 : Nat) : Int) = (18446744073709551616 : Int) ^ 3 := by rw [Int.natCast_pow]; rfl
    omega
  obtain ⟨K0, hK0⟩ := hw
  obtain ⟨K1, hK1⟩ := law_step p0 x a1 hp hx hpl hxl
  obtain ⟨K2, hK2⟩ := law_step p0 x ((maxI 0 a1).tmod 30) hp hx hpl hxl
  refine ⟨K0 + K1 + K2 + 10 + 1, ?_⟩
  generalize hk : K0 + K1 + K2 + 10 = k
  rw [law03DigitsPow.eq, hmin]
  simp only [iteA_eq, Int.toNat_natCast, hP]
  rw [if_pos (by omega), of_spec p0 x hp hx (by omega) k (by omega)]
  have s1 := hK1 k (by omega) (k - 1) 0 [a1, (maxI 0 a1).tmod 30] (by omega) rfl rfl
  have s2 := hK2 k (by omega) (k - 2) 1 [a1, (maxI 0 a1).tmod 30] (by omega) rfl rfl
  rw [show k - 1 + 1 = k by omega] at s1
  rw [show k - 2 + 1 = k - 1 by omega] at s2
  have s3 : law03DigitsPow.l0 k (k - 2) p0 2 ((1 + 1 : Nat) : Int) (L x) [a1, (maxI 0 a1).tmod 30] = some ⟨[(.v (.c (.bool true)))], []⟩ := by
    rw [show k - 2 = k - 3 + 1 by omega, law03DigitsPow.l0_succ]
    simp only [iteA_eq]
    rw [if_neg (by decide), hK0 k (by omega)]
  exact (s1.trans s2).trans s3
end TrydE
end
section
set_option linter.unusedSimpArgs false
set_option linter.unusedVariables false
namespace TrydE
open Go.Eng Go.Proofs Num
set_option maxRecDepth 1000000
theorem wakes_eq (k : Nat) : C (k + 120) 15 [] = some ⟨[(.v (.c (.bool true)))], []⟩ := by kernel_rfl
theorem wakes_spec : ∃ K, ∀ k, K ≤ k → ∀ F : Bool → Option Res, callT (C k 15 []) sh15 F = F true := by
  refine ⟨120, fun k hk F => ?_⟩
  rw [show k = k - 120 + 120 by omega, wakes_eq]
  rfl
theorem digitsPow_true (a0 : List Int) (a1 : Int) (h0 : Dg (18446744073709551616 : Int) a0) (hlen : a0.length < 17592186044417) : ∃ k, C k 3 [(.v (.c (.sl (.int .u64) a0))), (.v (.c (.int .i64 a1)))] = some ⟨[(.v (.c (.bool true)))], []⟩ := law_spec wakes_spec a0 a1 h0 hlen
end TrydE
end
