/- The evaluator, what its values stand for, and the plain operations, proved sound. It speaks of any program; nothing is taken for granted. -/
import Derived.Calls
import Derived.Below
import Derived.Tactics
import Derived.Laws.CopyRow
import Derived.Laws.Cells
import Derived.Laws.AppendOwn
import Derived.Lib.FrozenHead
import Derived.ChangeKeysEq
section
set_option linter.unusedSimpArgs false
set_option linter.unusedVariables false
namespace Num

/-- The value of digits to a base, the least first. -/
def val (B : Int) : List Int → Int
  | [] => 0
  | d :: l => d + B * val B l
/-- Digits that may be. -/
def Dg (B : Int) (l : List Int) : Prop := ∀ d ∈ l, 0 ≤ d ∧ d < B
/-- Without noughts at the end. -/
def Tr (l : List Int) : Prop := l.getLast? ≠ some 0

theorem Dg.nil {B : Int} : Dg B [] := fun _ h => by cases h
theorem Dg.cons {B d : Int} {l : List Int} (h0 : 0 ≤ d) (h1 : d < B) (h : Dg B l) : Dg B (d :: l) := by
  intro x hx
  rcases List.mem_cons.1 hx with rfl | hx
  · exact ⟨h0, h1⟩
  · exact h x hx
theorem Dg.head {B d : Int} {l : List Int} (h : Dg B (d :: l)) : 0 ≤ d ∧ d < B := h d (by simp)
theorem Dg.tail {B d : Int} {l : List Int} (h : Dg B (d :: l)) : Dg B l := fun x hx => h x (by simp [hx])
theorem Dg.append {B : Int} {l m : List Int} (h : Dg B l) (k : Dg B m) : Dg B (l ++ m) := by
  intro x hx
  rcases List.mem_append.1 hx with hx | hx
  · exact h x hx
  · exact k x hx
theorem Dg.left {B : Int} {l m : List Int} (h : Dg B (l ++ m)) : Dg B l := fun x hx => h x (by simp [hx])
theorem Dg.right {B : Int} {l m : List Int} (h : Dg B (l ++ m)) : Dg B m := fun x hx => h x (by simp [hx])
theorem Dg.take {B : Int} {l : List Int} (h : Dg B l) (n : Nat) : Dg B (l.take n) := fun x hx => h x (List.mem_of_mem_take hx)
theorem Dg.drop {B : Int} {l : List Int} (h : Dg B l) (n : Nat) : Dg B (l.drop n) := fun x hx => h x (List.mem_of_mem_drop hx)
theorem Dg.set {B : Int} {l : List Int} (h : Dg B l) (n : Nat) {d : Int} (h0 : 0 ≤ d) (h1 : d < B) : Dg B (l.set n d) := by
  intro x hx
  rcases List.mem_or_eq_of_mem_set hx with hx | rfl
  · exact h x hx
  · exact ⟨h0, h1⟩
theorem Dg.replicate {B : Int} (hB : 0 < B) (n : Nat) : Dg B (List.replicate n 0) := by
  intro x hx
  have := List.eq_of_mem_replicate hx
  omega
theorem Dg.getD {B : Int} {l : List Int} (hB : 0 < B) (h : Dg B l) (i : Nat) : 0 ≤ l.getD i 0 ∧ l.getD i 0 < B := by
  rw [List.getD_eq_getElem?_getD]
  by_cases hi : i < l.length
  · rw [List.getElem?_eq_getElem hi]; exact h _ (List.getElem_mem hi)
  · rw [List.getElem?_eq_none (by omega)]; simp; omega

theorem val_nonneg {B : Int} (hB : 0 ≤ B) : ∀ {l : List Int}, Dg B l → 0 ≤ val B l
  | [], _ => by simp [val]
  | d :: l, h => by
    have h1 := h.head
    have h2 := val_nonneg hB h.tail
    have := Int.mul_nonneg hB h2
    simp only [val]; omega
theorem val_append {B : Int} : ∀ (l m : List Int), val B (l ++ m) = val B l + B ^ l.length * val B m
  | [], m => by simp [val]
  | d :: l, m => by
    simp only [List.cons_append, val, val_append l m, List.length_cons, Int.pow_succ]
    grind
theorem val_lt {B : Int} (hB : 0 < B) : ∀ {l : List Int}, Dg B l → val B l < B ^ l.length
  | [], _ => by simp [val]
  | d :: l, h => by
    have h1 := h.head
    have h2 := val_lt hB h.tail
    have h3 : B * (val B l + 1) ≤ B * B ^ l.length := Int.mul_le_mul_of_nonneg_left (by omega) (by omega)
    simp only [val, List.length_cons, Int.pow_succ]
    grind
theorem val_replicate {B : Int} : ∀ n : Nat, val B (List.replicate n 0) = 0
  | 0 => rfl
  | n + 1 => by rw [List.replicate_succ]; simp [val, val_replicate n]
theorem val_snoc {B : Int} (l : List Int) (d : Int) : val B (l ++ [d]) = val B l + B ^ l.length * d := by rw [val_append]; simp [val]
theorem val_take_drop {B : Int} (l : List Int) (n : Nat) (hn : n ≤ l.length) : val B l = val B (l.take n) + B ^ n * val B (l.drop n) := by
  have h := val_append (B := B) (l.take n) (l.drop n)
  rw [List.take_append_drop, List.length_take, Nat.min_eq_left hn] at h
  exact h
theorem val_set {B : Int} : ∀ (l : List Int) (n : Nat) (d : Int), n < l.length → val B (l.set n d) = val B l + B ^ n * (d - l.getD n 0)
  | [], n, d, h => by simp at h
  | e :: l, 0, d, _ => by simp [val]; omega
  | e :: l, n + 1, d, h => by
    have ih := val_set (B := B) l n d (by simpa using h)
    simp only [List.set_cons_succ, val, ih, List.getD_cons_succ, Int.pow_succ]
    grind

/-- A number's digits. -/
def digF (B : Nat) : Nat → Nat → List Int
  | 0, _ => []
  | k + 1, n => if n = 0 then [] else ((n % B : Nat) : Int) :: digF B k (n / B)
def dig (B n : Nat) : List Int := digF B n n
theorem digF_enough {B : Nat} (hB : 2 ≤ B) : ∀ (k m n : Nat), n ≤ k → n ≤ m → digF B k n = digF B m n
  | 0, 0, n, _, _ => rfl
  | 0, m + 1, n, h, _ => by have : n = 0 := by omega
                            subst this; simp [digF]
  | k + 1, 0, n, _, h => by have : n = 0 := by omega
                            subst this; simp [digF]
  | k + 1, m + 1, n, h1, h2 => by
    simp only [digF]
    by_cases h0 : n = 0
    · rw [if_pos h0, if_pos h0]
    · rw [if_neg h0, if_neg h0]
      have : n / B < n := Nat.div_lt_self (by omega) hB
      rw [digF_enough hB k m (n / B) (by omega) (by omega)]
theorem dig_zero (B : Nat) : dig B 0 = [] := rfl
theorem dig_pos {B n : Nat} (hB : 2 ≤ B) (hn : 0 < n) : dig B n = ((n % B : Nat) : Int) :: dig B (n / B) := by
  unfold dig
  obtain ⟨m, rfl⟩ : ∃ m, n = m + 1 := ⟨n - 1, by omega⟩
  rw [digF, if_neg (by omega)]
  have : (m + 1) / B < m + 1 := Nat.div_lt_self (by omega) hB
  rw [digF_enough hB m ((m + 1) / B) _ (by omega) (by omega)]
theorem dig_dg {B : Nat} (hB : 2 ≤ B) (n : Nat) : Dg B (dig B n) := by
  induction n using Nat.strongRecOn with
  | _ n ih =>
    by_cases h0 : n = 0
    · subst h0; exact Dg.nil
    · rw [dig_pos hB (by omega)]
      have := Nat.mod_lt n (show B > 0 by omega)
      exact Dg.cons (by omega) (by omega) (ih _ (Nat.div_lt_self (by omega) hB))
theorem dig_val {B : Nat} (hB : 2 ≤ B) (n : Nat) : val B (dig B n) = n := by
  induction n using Nat.strongRecOn with
  | _ n ih =>
    by_cases h0 : n = 0
    · subst h0; rfl
    · rw [dig_pos hB (by omega), val, ih _ (Nat.div_lt_self (by omega) hB)]
      have := Nat.mod_add_div n B
      exact_mod_cast this
theorem Tr.cons {d : Int} {l : List Int} (h : Tr l) (hd : l ≠ [] ∨ d ≠ 0) : Tr (d :: l) := by
  unfold Tr at *
  cases l with
  | nil => simp; simpa using hd
  | cons e l => rw [List.getLast?_cons_cons]; exact h
theorem Tr.tail {d : Int} {l : List Int} (h : Tr (d :: l)) : Tr l := by
  unfold Tr at *
  cases l with
  | nil => simp
  | cons e l => rw [List.getLast?_cons_cons] at h; exact h
theorem Tr.nil : Tr [] := by simp [Tr]
theorem dig_tr {B : Nat} (hB : 2 ≤ B) (n : Nat) : Tr (dig B n) := by
  induction n using Nat.strongRecOn with
  | _ n ih =>
    by_cases h0 : n = 0
    · subst h0; exact Tr.nil
    · rw [dig_pos hB (by omega)]
      refine (ih _ (Nat.div_lt_self (by omega) hB)).cons ?_
      by_cases h1 : n / B = 0
      · right
        have := Nat.mod_add_div n B
        rw [h1] at this
        omega
      · left
        rw [dig_pos hB (Nat.pos_of_ne_zero h1)]
        simp
theorem val_pos {B : Int} (hB : 0 < B) : ∀ {l : List Int}, Dg B l → Tr l → l ≠ [] → 0 < val B l
  | [], _, _, h => absurd rfl h
  | d :: l, h, t, _ => by
    have h1 := h.head
    simp only [val]
    by_cases hl : l = []
    · subst hl
      have : d ≠ 0 := by simpa [Tr] using t
      simp [val]; omega
    · have := val_pos hB h.tail t.tail hl
      have := Int.mul_pos hB this
      omega
theorem dig_unique {B : Nat} (hB : 2 ≤ B) : ∀ {l : List Int}, Dg B l → Tr l → ∀ {n : Nat}, val B l = n → l = dig B n
  | [], _, _, n, hv => by
    have : n = 0 := by simp [val] at hv; omega
    subst this; rfl
  | d :: l, h, t, n, hv => by
    have hp := val_pos (by omega) h t (by simp)
    rw [dig_pos hB (by omega)]
    have h1 := h.head
    have h2 := val_nonneg (by omega) h.tail
    simp only [val] at hv
    obtain ⟨m, hm⟩ := Int.eq_ofNat_of_zero_le h2
    obtain ⟨e, rfl⟩ := Int.eq_ofNat_of_zero_le h1.1
    rw [hm] at hv
    have hn : n = e + B * m := by exact_mod_cast hv.symm
    subst hn
    have he : e < B := by exact_mod_cast h1.2
    rw [Nat.add_mul_mod_self_left, Nat.mod_eq_of_lt he, Nat.add_mul_div_left _ _ (by omega), Nat.div_eq_of_lt he, Nat.zero_add]
    rw [dig_unique hB h.tail t.tail hm]
theorem dig_len_lt {B : Nat} (hB : 2 ≤ B) {n k : Nat} (h : n < B ^ k) : (dig B n).length ≤ k := by
  induction k generalizing n with
  | zero => have : n = 0 := by simpa using h
            subst this; simp [dig_zero]
  | succ k ih =>
    by_cases h0 : n = 0
    · subst h0; simp [dig_zero]
    · rw [dig_pos hB (by omega), List.length_cons]
      have : n / B < B ^ k := by rw [Nat.div_lt_iff_lt_mul (by omega)]; rwa [Nat.pow_succ] at h
      have := ih this
      omega
theorem lt_of_dig_len {B : Nat} (hB : 2 ≤ B) (n : Nat) : n < B ^ (dig B n).length := by
  have h := val_lt (B := (B : Int)) (by omega) (dig_dg hB n)
  rw [dig_val hB] at h
  exact_mod_cast h
theorem dig_eq_nil {B n : Nat} (hB : 2 ≤ B) : dig B n = [] ↔ n = 0 := by
  constructor
  · intro h
    have := dig_val hB n
    rw [h] at this
    simp [val] at this
    omega
  · rintro rfl; rfl
theorem dig_inj {B n m : Nat} (hB : 2 ≤ B) (h : dig B n = dig B m) : n = m := by
  have := dig_val hB n
  rw [h, dig_val hB] at this
  omega
/-- Noughts at the end fall. -/
theorem trim_dig {B : Nat} (hB : 2 ≤ B) {l : List Int} (h : Dg B l) {n k : Nat} (hv : val B l = n) (hk : k ≤ l.length) (hz : ∀ i, k ≤ i → i < l.length → l.getD i 0 = 0) (ht : k = 0 ∨ l.getD (k - 1) 0 ≠ 0) : l.take k = dig B n := by
  refine dig_unique hB (h.take k) ?_ ?_
  · unfold Tr
    rw [List.getLast?_eq_getElem?, List.length_take, Nat.min_eq_left hk, List.getElem?_take]
    rcases ht with rfl | ht
    · simp
    · by_cases h0 : k = 0
      · subst h0; simp
      · rw [if_pos (by omega)]
        intro he
        apply ht
        rw [List.getD_eq_getElem?_getD, he]; rfl
  · rw [← hv, val_take_drop l k hk]
    have : l.drop k = List.replicate (l.length - k) 0 := by
      apply List.ext_getElem
      · simp
      · intro i h1 h2
        rw [List.getElem_drop, List.getElem_replicate]
        have := hz (k + i) (by omega) (by simp at h1; omega)
        rw [List.getD_eq_getElem?_getD, List.getElem?_eq_getElem (by simp at h1; omega)] at this
        simpa using this
    rw [this, val_replicate]; omega
end Num
end
section
set_option linter.unusedSimpArgs false
set_option linter.unusedVariables false
namespace Go.Eng

/-! ## Values -/
/-- The kinds of a slice's elements: cells that lead to no memory. -/
inductive Cd where
  | int (k : IntKind) | bool | str | pr (a b : Cd)
  deriving DecidableEq
abbrev Cd.ty : Cd → Type
  | .int _ => Int
  | .bool => Bool
  | .str => ByteArray
  | .pr a b => a.ty × b.ty
def Cd.sz : Cd → Nat
  | .pr a b => a.sz + b.sz
  | _ => 1
def Cd.dflt : (c : Cd) → c.ty
  | .int _ => (0 : Int)
  | .bool => false
  | .str => (⟨#[]⟩ : ByteArray)
  | .pr a b => (a.dflt, b.dflt)
def Cd.encV : (c : Cd) → c.ty → List Value
  | .int k, x => [.int k x]
  | .bool, x => [.bool x]
  | .str, x => [.string x]
  | .pr a b, x => a.encV x.1 ++ b.encV x.2
/-- An object: something in memory that is no variable. -/
inductive Ob where
  | iter (s : ByteArray) (pos : Nat)
  | bld (T e : TypeId) (s : ByteArray)
/-- A value of one cell. -/
inductive PC where
  | unk
  | int (k : IntKind) (n : Int)
  | bool (b : Bool)
  | str (s : ByteArray)
  | nil
  | sl (c : Cd) (l : List c.ty)
  | own (i ver : Nat)
  | view (i ver off len : Nat)
  | box (b off : Nat)
  | arr (i ver j off : Nat)
  | elt (c : Cd) (x : c.ty) (off : Nat)
  | fn (f : FuncId)
  | objc (o : Ob)
  | nilp
  | nili
def Cd.enc : (c : Cd) → c.ty → List PC
  | .int k, x => [.int k x]
  | .bool, x => [.bool x]
  | .str, x => [.str x]
  | .pr a b, x => a.enc x.1 ++ b.enc x.2
def Cd.dec : (c : Cd) → List PC → Option (c.ty × List PC)
  | .int k, ps =>
    match ps with
    | .int k' x :: r => if k = k' then some (x, r) else none
    | _ => none
  | .bool, ps =>
    match ps with
    | .bool x :: r => some (x, r)
    | _ => none
  | .str, ps =>
    match ps with
    | .str x :: r => some (x, r)
    | _ => none
  | .pr a b, r =>
    match a.dec r with
    | some (x, r) =>
      match b.dec r with
      | some (y, r) => some ((x, y), r)
      | none => none
    | none => none
/-- A value: one cell, or a struct's cells. -/
inductive PA where
  | c (p : PC)
  | agg (ps : List PC)
inductive PV where
  | a (x : PA)
  | tup (xs : List PA)
abbrev PV.one (p : PC) : PV := .a (.c p)
/-- A row that the call itself made, or that it was lent. -/
structure AR where
  c : Cd
  l : List c.ty
  ver : Nat
  fz : Bool
  lt : Bool
structure St where
  tm : List PV
  bx : List (Option (List PC))
  ar : List (Option AR)

/-! ## Types -/
def aggP (P : Program) (t : TypeId) : Option Bool :=
  match P.underlying t with
  | some (.struct _) => some true
  | some (.array _ _) => some true
  | some _ => some false
  | none => none
def sizeP (P : Program) (t : TypeId) : Option Nat := (P.info? t).map (·.size)
def cdList (f : TypeId → Option Cd) : List TypeId → Option Cd
  | [] => none
  | [t] => f t
  | t :: r =>
    match f t, cdList f r with
    | some a, some b => some (.pr a b)
    | _, _ => none
def cdOf (P : Program) : Nat → TypeId → Option Cd
  | 0, _ => none
  | n + 1, t =>
    match P.underlying t with
    | some (.int k) => some (.int k)
    | some .bool => some .bool
    | some .string => some .str
    | some (.struct fs) => cdList (cdOf P n) (fs.toList.map (·.type))
    | _ => none
def elemP (P : Program) (t : TypeId) : Option TypeId :=
  match P.underlying t with
  | some (.slice e) => some e
  | _ => none
/-- A constant as a cell. -/
def constC : Value → PC
  | .int k n => .int k n
  | .bool b => .bool b
  | .string s => .str s
  | .slice none 0 0 => .nil
  | .pointer none => .nilp
  | .nilIface => .nili
  | _ => .unk
def constV : Value → PV
  | .agg cs => .a (.agg (cs.toList.map constC))
  | v => .a (.c (constC v))

/-! ## The state -/
def St.get (st : St) (t : Nat) : PV := st.tm.getD t (.a (.c .unk))
def St.op (st : St) : Operand → PV
  | .tmp t => st.get t
  | .const v => constV v
  | .func f => .a (.c (.fn f))
  | .global _ => .a (.c .unk)
def St.put (st : St) (d : Option Tmp) (v : PV) : St :=
  match d with
  | some d => { st with tm := st.tm.set d v }
  | none => st
def St.setBx (st : St) (b : Nat) (cs : List PC) : St := { st with bx := st.bx.set b (some cs) }
def St.setAr (st : St) (i : Nat) (A : AR) : St := { st with ar := st.ar.set i (some A) }
def obOf : List PC → Option Ob
  | [.objc o] => some o
  | _ => none
def St.box? (st : St) (b : Nat) : Option (List PC) :=
  match st.bx.getD b none with
  | some cs => (match obOf cs with | some _ => none | none => some cs)
  | none => none
def St.ob? (st : St) (b : Nat) : Option Ob :=
  match st.bx.getD b none with
  | some cs => obOf cs
  | none => none
def St.arr? (st : St) (i ver : Nat) : Option AR :=
  match st.ar.getD i none with
  | some A => if A.ver = ver then some A else none
  | none => none
/-- A slice's elements. -/
structure SL where
  c : Cd
  l : List c.ty
def St.sl? (st : St) : PC → Option SL
  | .sl c l => some ⟨c, l⟩
  | .own i ver =>
    match st.arr? i ver with
    | some A => some ⟨A.c, A.l⟩
    | none => none
  | .view i ver off len =>
    match st.arr? i ver with
    | some A => some ⟨A.c, (A.l.drop off).take len⟩
    | none => none
  | _ => none
def cellsAt (cs : List PC) (off n : Nat) : Option (List PC) := if off + n ≤ cs.length then some ((cs.drop off).take n) else none
def asVal (agg : Bool) (cs : List PC) : Option PV :=
  if agg then some (.a (.agg cs)) else match cs with
    | [p] => some (.a (.c p))
    | _ => none
/-- The cells of a variable, or of an element. -/
def St.cells? (st : St) : PC → Nat → Option (List PC)
  | .box b off, n =>
    match st.box? b with
    | some cs => cellsAt cs off n
    | none => none
  | .elt c x off, n => cellsAt (c.enc x) off n
  | .arr i ver j off, n =>
    match st.arr? i ver with
    | some A => cellsAt (A.c.enc (A.l.getD j A.c.dflt)) off n
    | none => none
  | _, _ => none
def spliceC (cs : List PC) (off : Nat) (vs : List PC) : List PC := cs.take off ++ vs ++ cs.drop (off + vs.length)
def paCells : PA → List PC
  | .c p => [p]
  | .agg ps => ps
def PV.cells : PV → Option (List PC)
  | .a (.c p) => some [p]
  | .a (.agg ps) => some ps
  | .tup _ => none
/-- What a cell that is stored in memory, or handed over, may be: nothing of the call's own. -/
def St.frozen (st : St) : PC → Option (PC × St)
  | .own i ver =>
    match st.arr? i ver with
    | some A => if A.lt then none else some (.sl A.c A.l, st.setAr i { A with fz := true })
    | none => none
  | .view i ver off len =>
    match st.arr? i ver with
    | some A => if A.lt then none else some (.sl A.c ((A.l.drop off).take len), st.setAr i { A with fz := true })
    | none => none
  | .box _ _ => none
  | .arr _ _ _ _ => none
  | .elt _ _ _ => none
  | .unk => none
  | .objc _ => none
  | p => some (p, st)
def St.frozens (st : St) : List PC → Option (List PC × St)
  | [] => some ([], st)
  | p :: r =>
    match st.frozen p with
    | some (q, st1) =>
      match st1.frozens r with
      | some (qs, st2) => some (q :: qs, st2)
      | none => none
    | none => none
def St.frozenA (st : St) : PA → Option (PA × St)
  | .c p =>
    match st.frozen p with
    | some (q, st1) => some (.c q, st1)
    | none => none
  | .agg ps =>
    match st.frozens ps with
    | some (qs, st1) => some (.agg qs, st1)
    | none => none

/-! ## Shapes of results -/
inductive SC where
  | int (k : IntKind) | bool | str | sl (c : Cd)
  deriving DecidableEq
abbrev SC.ty : SC → Type
  | .int _ => Int
  | .bool => Bool
  | .str => ByteArray
  | .sl c => List c.ty
def SC.enc : (s : SC) → s.ty → PC
  | .int k, x => .int k x
  | .bool, x => .bool x
  | .str, x => .str x
  | .sl c, x => .sl c x
def SC.dec : (s : SC) → PC → Option s.ty
  | .int k, p =>
    match p with
    | .int k' x => if k = k' then some x else none
    | _ => none
  | .bool, p =>
    match p with
    | .bool x => some x
    | _ => none
  | .str, p =>
    match p with
    | .str x => some x
    | _ => none
  | .sl c, p =>
    match p with
    | .sl c' l => if h : c' = c then some (h ▸ l) else none
    | .nil => some []
    | _ => none
abbrev prodTy : List SC → Type
  | [] => Unit
  | [s] => s.ty
  | s :: r => s.ty × prodTy r
def encCells : (ss : List SC) → prodTy ss → List PC
  | [], _ => []
  | [s], x => [s.enc x]
  | s :: s' :: r, x => s.enc x.1 :: encCells (s' :: r) x.2
def decCells : (ss : List SC) → List PC → Option (prodTy ss)
  | [], [] => some ()
  | [s], [p] => s.dec p
  | s :: s' :: r, p :: ps =>
    match s.dec p with
    | some x =>
      match decCells (s' :: r) ps with
      | some y => some (x, y)
      | none => none
    | none => none
  | _, _ => none
/-- One result: a cell, a struct, a row that is the caller's from then on. -/
inductive SA where
  | one (s : SC) | agg (ss : List SC) | fresh (c : Cd)
abbrev SA.ty : SA → Type
  | .one s => s.ty
  | .agg ss => prodTy ss
  | .fresh k => List k.ty
/-- What a call hands back: its results, a row of each fresh one, what the lent rows hold. -/
inductive RA where
  | v (x : PA)
  | fresh (k : Cd) (l : List k.ty)
structure Res where
  rs : List RA
  mu : List SL
def SA.enc : (s : SA) → s.ty → RA
  | .one s, x => .v (.c (s.enc x))
  | .agg ss, x => .v (.agg (encCells ss x))
  | .fresh k, x => .fresh k x
def SA.dec : (s : SA) → RA → Option s.ty
  | .one s, x =>
    match x with
    | .v (.c p) => s.dec p
    | .fresh k' l =>
      match s with
      | .sl k => if h : k' = k then some (h ▸ l) else none
      | _ => none
    | _ => none
  | .agg ss, x =>
    match x with
    | .v (.agg ps) => decCells ss ps
    | _ => none
  | .fresh k, x =>
    match x with
    | .fresh k' l => if h : k' = k then some (h ▸ l) else none
    | .v (.c .nil) => some []
    | _ => none
abbrev raTy : List SA → Type
  | [] => Unit
  | [s] => s.ty
  | s :: r => s.ty × raTy r
def raEnc : (ss : List SA) → raTy ss → List RA
  | [], _ => []
  | [s], x => [s.enc x]
  | s :: s' :: r, x => s.enc x.1 :: raEnc (s' :: r) x.2
def raDec : (ss : List SA) → List RA → Option (raTy ss)
  | [], [] => some ()
  | [s], [p] => s.dec p
  | s :: s' :: r, p :: ps =>
    match s.dec p with
    | some x =>
      match raDec (s' :: r) ps with
      | some y => some (x, y)
      | none => none
    | none => none
  | _, _ => none
abbrev muTy : List Cd → Type
  | [] => Unit
  | [k] => List k.ty
  | k :: r => List k.ty × muTy r
def muEnc : (ks : List Cd) → muTy ks → List SL
  | [], _ => []
  | [k], x => [⟨k, x⟩]
  | k :: k' :: r, x => ⟨k, x.1⟩ :: muEnc (k' :: r) x.2
def slDec (k : Cd) (s : SL) : Option (List k.ty) := if h : s.c = k then some (h ▸ s.l) else none
def muDec : (ks : List Cd) → List SL → Option (muTy ks)
  | [], [] => some ()
  | [k], [s] => slDec k s
  | k :: k' :: r, s :: ss =>
    match slDec k s with
    | some x =>
      match muDec (k' :: r) ss with
      | some y => some (x, y)
      | none => none
    | none => none
  | _, _ => none
/-- A call's shape: the results, the lent rows; which arguments are lent; may the results lead to what was handed over? -/
structure ObR where
  ok : Bool
  ob : Option Ob
  rs : List (PA ⊕ Ob)
structure Sh where
  rs : List SA
  mu : List Cd := []
  lent : List Nat := []
  keeps : Bool := true
  pin : List (List (Option Cd)) := []
  obj : Option (Option Ob → List PA → Option ObR) := none
abbrev shTy : List SA → List Cd → Type
  | rs, [] => raTy rs
  | [], m :: r => muTy (m :: r)
  | s :: rs, m :: r => raTy (s :: rs) × muTy (m :: r)
abbrev Sh.ty (s : Sh) : Type := shTy s.rs s.mu
def shEnc : (rs : List SA) → (mu : List Cd) → shTy rs mu → Res
  | [], [], _ => ⟨[], []⟩
  | s :: rs, [], x => ⟨raEnc (s :: rs) x, []⟩
  | [], m :: r, x => ⟨[], muEnc (m :: r) x⟩
  | s :: rs, m :: r, x => ⟨raEnc (s :: rs) x.1, muEnc (m :: r) x.2⟩
def shDec : (rs : List SA) → (mu : List Cd) → Res → Option (shTy rs mu)
  | [], [], ⟨[], []⟩ => some ()
  | s :: rs, [], ⟨l, []⟩ => raDec (s :: rs) l
  | [], m :: r, ⟨[], l⟩ => muDec (m :: r) l
  | s :: rs, m :: r, ⟨l, l'⟩ =>
    match raDec (s :: rs) l with
    | some x =>
      match muDec (m :: r) l' with
      | some y => some (x, y)
      | none => none
    | none => none
  | _, _, _ => none
/-- A call's answer, taken apart. -/
def callT {R : Type} (o : Option Res) (s : Sh) (K : s.ty → Option R) : Option R :=
  match o with
  | some r =>
    match shDec s.rs s.mu r with
    | some x => K x
    | none => none
  | none => none
/-- An argument: a value, or a row that is lent. -/
inductive AA where
  | v (x : PA)
  | lent (s : SL)
end Go.Eng
end
section
set_option linter.unusedSimpArgs false
set_option linter.unusedVariables false
namespace Go.Eng

/-! ## The evaluator -/
/-- A mark: ways meet here. -/
abbrev joinC {R : Type} (n : Nat) (f : St → Option R) (st : St) : Option R := n.casesOn (f st) fun _ => f st
theorem joinC_eq {R : Type} (n : Nat) (f : St → Option R) (st : St) : joinC n f st = f st := by cases n <;> rfl
section
variable {R : Type}
def bitsI (op : BinOp) (k : IntKind) (x y : Int) : Option Int :=
  match op with
  | .and => some (k.wrap (BitVec.ofInt k.bits x &&& BitVec.ofInt k.bits y).toNat)
  | .or => some (k.wrap (BitVec.ofInt k.bits x ||| BitVec.ofInt k.bits y).toNat)
  | .xor => some (k.wrap (BitVec.ofInt k.bits x ^^^ BitVec.ofInt k.bits y).toNat)
  | .andNot => some (k.wrap (BitVec.ofInt k.bits x &&& ~~~BitVec.ofInt k.bits y).toNat)
  | _ => none
def andI (k : IntKind) (x y : Int) : Int := k.wrap (BitVec.ofInt k.bits x &&& BitVec.ofInt k.bits y).toNat
def orI (k : IntKind) (x y : Int) : Int := k.wrap (BitVec.ofInt k.bits x ||| BitVec.ofInt k.bits y).toNat
def xorI (k : IntKind) (x y : Int) : Int := k.wrap (BitVec.ofInt k.bits x ^^^ BitVec.ofInt k.bits y).toNat
def andNotI (k : IntKind) (x y : Int) : Int := k.wrap (BitVec.ofInt k.bits x &&& ~~~BitVec.ofInt k.bits y).toNat
def shlI (k : IntKind) (x y : Int) : Int := k.wrap (x * 2 ^ min y.toNat k.bits)
def shrI (k : IntKind) (x y : Int) : Int := x.fdiv (2 ^ min y.toNat k.bits)
/-- A byte of a string. -/
def sbyte (s : ByteArray) (i : Int) : Int := ((s.data.toList.getD i.toNat 0).toNat : Int)

/-- A new box, a new row: its place is free. -/
def St.newBx (st : St) (b : Nat) (cs : List PC) : Option St :=
  match st.bx[b]? with
  | some none => some (st.setBx b cs)
  | _ => none
def St.newAr (st : St) (i : Nat) (A : AR) : Option St :=
  match st.ar[i]? with
  | some none => some (st.setAr i A)
  | _ => none
def known : PC → Bool
  | .unk => false
  | _ => true
def isBool (P : Program) (t : TypeId) : Bool :=
  match P.underlying t with
  | some .bool => true
  | _ => false
def binK (isB : Bool) (op : BinOp) (x y : PC) (K : PC → Option R) : Option R :=
  match op, x, y with
  | .shl, .int k a, .int _ b => if b < 0 then none else K (.int k (shlI k a b))
  | .shr, .int k a, .int _ b => if b < 0 then none else K (.int k (shrI k a b))
  | .add, .int k a, .int k' b => if k = k' then K (.int k (k.wrap (a + b))) else none
  | .sub, .int k a, .int k' b => if k = k' then K (.int k (k.wrap (a - b))) else none
  | .mul, .int k a, .int k' b => if k = k' then K (.int k (k.wrap (a * b))) else none
  | .quo, .int k a, .int k' b => if k = k' then (if b = 0 then none else K (.int k (k.wrap (a.tdiv b)))) else none
  | .rem, .int k a, .int k' b => if k = k' then (if b = 0 then none else K (.int k (a.tmod b))) else none
  | .and, .int k a, .int k' b => if k = k' then K (.int k (andI k a b)) else none
  | .or, .int k a, .int k' b => if k = k' then K (.int k (orI k a b)) else none
  | .xor, .int k a, .int k' b => if k = k' then K (.int k (xorI k a b)) else none
  | .andNot, .int k a, .int k' b => if k = k' then K (.int k (andNotI k a b)) else none
  | .eql, .int k a, .int k' b => if k = k' then K (.bool (a == b)) else none
  | .neq, .int k a, .int k' b => if k = k' then K (.bool (a != b)) else none
  | .lss, .int k a, .int k' b => if k = k' then K (.bool (decide (a < b))) else none
  | .leq, .int k a, .int k' b => if k = k' then K (.bool (decide (a ≤ b))) else none
  | .gtr, .int k a, .int k' b => if k = k' then K (.bool (decide (a > b))) else none
  | .geq, .int k a, .int k' b => if k = k' then K (.bool (decide (a ≥ b))) else none
  | .add, .str a, .str b => if a.size + b.size ≤ 9223372036854775807 then K (.str (a ++ b)) else none
  | .eql, .str a, .str b => K (.bool (a.toList == b.toList))
  | .neq, .str a, .str b => K (.bool (!(a.toList == b.toList)))
  | .lss, .str a, .str b => K (.bool (Op.bytesLess a.toList b.toList))
  | .geq, .str a, .str b => K (.bool (!Op.bytesLess a.toList b.toList))
  | .eql, .bool a, .bool b => if isB = true then K (.bool (a == b)) else none
  | .neq, .bool a, .bool b => if isB = true then K (.bool (!(a == b))) else none
  | _, _, _ => none
/-- '==' of structs: cell by cell. -/
def eqCells : List PC → List PC → Option Bool
  | [], [] => some true
  | .int k a :: r, .int k' b :: r' => if k = k' then (eqCells r r').map fun t => (a == b) && t else none
  | .str a :: r, .str b :: r' => (eqCells r r').map fun t => (a.toList == b.toList) && t
  | .bool a :: r, .bool b :: r' => (eqCells r r').map fun t => (a == b) && t
  | _, _ => none
def unK (op : UnOp) (x : PC) (K : PC → Option R) : Option R :=
  match op, x with
  | .neg, .int k n => K (.int k (k.wrap (0 - n)))
  | .xor, .int k n => K (.int k (xorI k (if k.signed then -1 else k.max) n))
  | .not, .bool b => K (.bool !b)
  | _, _ => none
def maxI (x y : Int) : Int := if y > x then y else x
def minI (x y : Int) : Int := if y < x then y else x
def foldK (f : Int → Int → Int) : PC → List PC → (PC → Option R) → Option R
  | x, [], K => K x
  | .int k x, .int k' y :: r, K => if k = k' then foldK f (.int k (f x y)) r K else none
  | _, _, _ => none
def cellsOfParts (c : Cd) (st : St) : Nat → List (Nat × Operand) → Option (List c.ty × St)
  | _, [] => some ([], st)
  | n, (i, x) :: r =>
    if i = n then
      match st.op x with
      | .a pa =>
        match st.frozenA pa with
        | some (q, st1) =>
          match c.dec (paCells q) with
          | some (y, []) =>
            match cellsOfParts c st1 (n + 1) r with
            | some (l, st2) => some (y :: l, st2)
            | none => none
          | _ => none
        | none => none
      | _ => none
    else none
def zeroIs : (c : Cd) → List Value → Option (List Value)
  | .int k, vs =>
    match vs with
    | .int k' n :: r => if k = k' ∧ n = 0 then some r else none
    | _ => none
  | .bool, vs =>
    match vs with
    | .bool b :: r => if b = false then some r else none
    | _ => none
  | .str, vs =>
    match vs with
    | .string s :: r => if s.size = 0 then some r else none
    | _ => none
  | .pr a b, r =>
    match zeroIs a r with
    | some r' => zeroIs b r'
    | none => none
def zeroOk (P : Program) (e : TypeId) (c : Cd) : Bool :=
  match P.info? e with
  | some i =>
    match i.zero with
    | some z =>
      i.size == c.sz && (match zeroIs c z.cells.toList with | some [] => true | _ => false)
    | none => false
  | none => false
/-- An array type's length and its elements' type. -/
def arrE (P : Program) (t : TypeId) : Option (Nat × TypeId) :=
  match P.underlying t with
  | some (.array n e) => some (n, e)
  | _ => none
def arrC (P : Program) (t : TypeId) : Option (Nat × Cd) :=
  match arrE P t with
  | some (n, e) => if 0 < n then (match cdOf P 8 e with | some c => some (n, c) | none => none) else none
  | none => none
def zeroIsN (c : Cd) : Nat → List Value → Option (List Value)
  | 0, vs => some vs
  | n + 1, vs =>
    match zeroIs c vs with
    | some r => zeroIsN c n r
    | none => none
def isNilL : Option (List Value) → Bool
  | some [] => true
  | _ => false
/-- A Builder's type: its bytes' type. -/
def bldP (P : Program) (t : TypeId) : Option TypeId :=
  match P.info? t with
  | some i =>
    match i.desc with
    | .named nm _ =>
      if nm == "strings.Builder" then
        match P.underlying t with
        | some (.struct fs) =>
          match fs[1]? with
          | some f => elemP P f.type
          | none => none
        | _ => none
      else none
    | _ => none
  | none => none
def isFresh : List Value → Bool
  | [.pointer none, .slice none 0 0] => true
  | _ => false
def allInt : List PC → Option (IntKind × List Int)
  | [.int k x] => some (k, [x])
  | .int k x :: r =>
    match allInt r with
    | some (k', l) => if k = k' then some (k, x :: l) else none
    | none => none
  | _ => none
def allStr : List PC → Option (List ByteArray)
  | [] => some []
  | .str x :: r =>
    match allStr r with
    | some l => some (x :: l)
    | none => none
  | _ => none
/-- Bytes as a string. -/
def bytesS (l : List Int) : ByteArray := ⟨(l.map fun x => UInt8.ofNat x.toNat).toArray⟩
def isU8 (P : Program) (e : TypeId) : Bool :=
  match P.underlying e with
  | some (.int .u8) => true
  | _ => false
def ixArr (cs : List PC) (n : Int) (K : PC → Option R) : Option R :=
  match allInt cs with
  | some (k, l) => if 0 ≤ n ∧ n < l.length then K (.int k (l.getD n.toNat 0)) else none
  | none =>
    match allStr cs with
    | some l => if 0 ≤ n ∧ n < l.length then K (.str (l.getD n.toNat ⟨#[]⟩)) else none
    | none => none
def bytesP (P : Program) (e : TypeId) : Nat := P.bytesOf e
def fillK : List (Nat × Nat) → List PC → List (Nat × List PC) → Option (List PC)
  | _, cells, [] => some cells
  | places, cells, (i, v) :: r =>
    match places[i]? with
    | some (off, size) => if v.length = size ∧ off + size ≤ cells.length then fillK places (spliceC cells off v) r else none
    | none => none
def partsOf (st : St) : List (Nat × Operand) → Option (List (Nat × List PC) × St)
  | [] => some ([], st)
  | (i, x) :: r =>
    match st.op x with
    | .a pa =>
      match st.frozenA pa with
      | some (q, st1) =>
        match partsOf st1 r with
        | some (ps, st2) => some ((i, paCells q) :: ps, st2)
        | none => none
      | none => none
    | _ => none
def placesP (P : Program) : List Field → Option (List (Nat × Nat))
  | [] => some []
  | f :: r =>
    match sizeP P f.type, placesP P r with
    | some n, some l => some ((f.offset, n) :: l)
    | _, _ => none
/-- One argument. -/
def argOf (lent : Bool) (st : St) (v : PV) : Option (AA × St) :=
  match v with
  | .a pa =>
    if lent then
      match pa with
      | .c p =>
        match p with
        | .own i ver =>
          match st.arr? i ver with
          | some A => if A.fz then none else some (.lent ⟨A.c, A.l⟩, st)
          | none => none
        | .view i ver off len =>
          match st.arr? i ver with
          | some A => if A.fz then none else some (.lent ⟨A.c, (A.l.drop off).take len⟩, st)
          | none => none
        | _ => none
      | _ => none
    else
      match st.frozenA pa with
      | some (q, st1) => some (.v q, st1)
      | none => none
  | _ => none
def argsOf (lent : List Nat) (st : St) : Nat → List Operand → Option (List AA × St)
  | _, [] => some ([], st)
  | n, x :: r =>
    match argOf (lent.contains n) st (st.op x) with
    | some (a, st1) =>
      match argsOf lent st1 (n + 1) r with
      | some (as, st2) => some (a :: as, st2)
      | none => none
    | none => none
/-- A nil slice, handed over, is an empty one. -/
def pinP : List (Option Cd) → List PC → List PC
  | some c :: r, .nil :: ps => .sl c [] :: pinP r ps
  | _ :: r, p :: ps => p :: pinP r ps
  | [], ps => ps
  | _ :: _, [] => []
def pinA (cs : List (Option Cd)) : AA → AA
  | .v (.c p) =>
    match cs, p with
    | [some c], .nil => .v (.c (.sl c []))
    | _, p => .v (.c p)
  | .v (.agg ps) => .v (.agg (pinP cs ps))
  | .lent s => .lent s
def pinAs : List (List (Option Cd)) → List AA → List AA
  | cs :: r, a :: as => pinA cs a :: pinAs r as
  | _, as => as
/-- No row without any element is lent in part. -/
def lentPos (lent : List Nat) (st : St) : Nat → List Operand → Bool
  | _, [] => true
  | n, x :: r =>
    if lent.contains n then
      match st.op x with
      | .a (.c (.view _ _ _ len)) => decide (0 < len) && lentPos lent st (n + 1) r
      | _ => lentPos lent st (n + 1) r
    else lentPos lent st (n + 1) r
def lentPosK (lent : List Nat) (st : St) : Nat → List Operand → Option R → Option R
  | _, [], K => K
  | n, x :: r, K =>
    if lent.contains n = true then
      match st.op x with
      | .a (.c (.view _ _ _ len)) => if 0 < len then lentPosK lent st (n + 1) r K else none
      | _ => lentPosK lent st (n + 1) r K
    else lentPosK lent st (n + 1) r K
theorem lentPosK_eq {lent : List Nat} {st : St} {K : Option R} : ∀ {xs : List Operand} {n : Nat}, lentPosK lent st n xs K = if lentPos lent st n xs = true then K else none
  | [], n => by simp [lentPosK, lentPos]
  | x :: xs, n => by
    unfold lentPosK lentPos
    split
    · split
      · split
        · rename_i h; simp only [h, decide_true, Bool.true_and]; exact lentPosK_eq
        · rename_i h; simp [h]
      · exact lentPosK_eq
    · exact lentPosK_eq
/-- The rows that are lent. -/
def lentIx (lent : List Nat) (st : St) : Nat → List Operand → List Nat
  | _, [] => []
  | n, x :: r =>
    if lent.contains n then
      match st.op x with
      | .a (.c (.own i _)) => i :: lentIx lent st (n + 1) r
      | .a (.c (.view i _ _ _)) => i :: lentIx lent st (n + 1) r
      | _ => lentIx lent st (n + 1) r
    else lentIx lent st (n + 1) r
/-- No row is lent twice, none is lent and handed over. -/
def lentOk (st : St) : List Nat → Bool
  | [] => true
  | i :: r => !r.contains i && (match st.ar.getD i none with | some A => !A.fz | none => false) && lentOk st r
def scNo : SC → Bool
  | .sl _ => false
  | _ => true
def noSl : List SA → Bool
  | [] => true
  | .one s :: r => scNo s && noSl r
  | .agg ss :: r => ss.all scNo && noSl r
  | .fresh _ :: r => noSl r
/-- What comes back of the lent rows. -/
def backOf (lent : List Nat) (st : St) : Nat → List Operand → List SL → Option St
  | _, [], [] => some st
  | _, [], _ => none
  | n, x :: r, ss =>
    if lent.contains n then
      match ss with
      | [] => none
      | s :: ss =>
        match st.op x with
        | .a (.c (.own i ver)) =>
          match st.arr? i ver with
          | some A => if h : s.c = A.c then backOf lent (st.setAr i { A with l := h ▸ s.l }) (n + 1) r ss else none
          | none => none
        | .a (.c (.view i ver off len)) =>
          match st.arr? i ver with
          | some A => if h : s.c = A.c then backOf lent (st.setAr i { A with l := A.l.take off ++ (h ▸ s.l) ++ A.l.drop (off + len) }) (n + 1) r ss else none
          | none => none
        | _ => none
    else backOf lent st (n + 1) r ss
/-- The results as values; a fresh row has a name from then on. -/
def inOf (st : St) : Nat → List RA → Option (List PA × St)
  | _, [] => some ([], st)
  | n, .v x :: r =>
    match inOf st n r with
    | some (l, st1) => some (x :: l, st1)
    | none => none
  | n, .fresh k l :: r =>
    match st.newAr n ⟨k, l, 0, false, false⟩ with
    | some st0 =>
      match inOf st0 (n + 1) r with
      | some (xs, st1) => some (.c (.own n 0) :: xs, st1)
      | none => none
    | none => none
def resV : List PA → PV
  | [x] => .a x
  | xs => .tup xs

def plainArgs (st : St) : List Operand → Option (List PA × St)
  | [] => some ([], st)
  | x :: r =>
    match st.op x with
    | .a pa =>
      match st.frozenA pa with
      | some (q, st1) =>
        match plainArgs st1 r with
        | some (as, st2) => some (q :: as, st2)
        | none => none
      | none => none
    | _ => none
/-- An object's results. -/
def orOf (slot : Nat) (st : St) : List (PA ⊕ Ob) → Option (List PA × St)
  | [] => some ([], st)
  | .inl x :: r =>
    match orOf slot st r with
    | some (l, st1) => some (x :: l, st1)
    | none => none
  | .inr o :: r =>
    match st.newBx slot [.objc o] with
    | some st1 =>
      match orOf slot st1 r with
      | some (l, st2) => some (.c (.box slot 0) :: l, st2)
      | none => none
    | none => none
def backOb (b : Option Nat) (o : Option Ob) (st : St) : Option St :=
  match b, o with
  | some b, some o => some (st.setBx b [.objc o])
  | none, none => some st
  | _, _ => none
def objRun (r : Option ObR) (slot : Nat) (b : Option Nat) (st : St) (K : PV → St → Option R) : Option R :=
  match r with
  | some r =>
    if r.ok = true then
      match backOb b r.ob st with
      | some st1 =>
        match orOf slot st1 r.rs with
        | some (vs, st2) => K (resV vs) st2
        | none => none
      | none => none
    else none
  | none => none
def objK (f : Option Ob → List PA → Option ObR) (slot : Nat) (xs : List Operand) (st : St) (K : PV → St → Option R) : Option R :=
  let plain := match plainArgs st xs with
    | some (as, st1) => objRun (f none as) slot none st1 K
    | none => none
  match xs with
  | x :: r =>
    match st.op x with
    | .a (.c (.box b 0)) =>
      match st.ob? b with
      | some o =>
        match plainArgs st r with
        | some (as, st1) => objRun (f (some o) as) slot (some b) st1 K
        | none => none
      | none => none
    | _ => plain
  | [] => plain
def callK (sg : FuncId → Option Sh) (ih : FuncId → List AA → Option Res) (slot : Nat) (g : FuncId) (xs : List Operand) (st : St) (K : PV → St → Option R) : Option R :=
  match sg g with
  | none => none
  | some sh =>
    match sh.obj with
    | some f => objK f slot xs st K
    | none =>
    match argsOf sh.lent st 0 xs with
    | none => none
    | some (as, st0) =>
      if lentOk st0 (lentIx sh.lent st 0 xs) && (sh.keeps || noSl sh.rs) then
      lentPosK sh.lent st 0 xs
      (callT (ih g (pinAs sh.pin as)) sh fun x =>
        let r := shEnc sh.rs sh.mu x
        let st1 := if sh.keeps then st0 else st
        match backOf sh.lent st1 0 xs r.mu with
        | none => none
        | some st2 =>
          match inOf st2 (2 * slot) r.rs with
          | some (vs, st3) => K (resV vs) st3
          | none => none)
      else none
def idxK (st : St) (p : PC) (i : Int) (K : PC → Option R) : Option R :=
  match p with
  | .sl c l => if 0 ≤ i ∧ i < l.length then K (.elt c (l.getD i.toNat c.dflt) 0) else none
  | .own a ver =>
    match st.arr? a ver with
    | some A => if 0 ≤ i ∧ i < A.l.length then K (.arr a ver i.toNat 0) else none
    | none => none
  | .view a ver off len =>
    match st.arr? a ver with
    | some A => if 0 ≤ i ∧ i < len then K (.arr a ver (off + i.toNat) 0) else none
    | none => none
  | _ => none
def ixOf : PV → Option Int
  | .a (.c (.int _ i)) => some i
  | _ => none
def bndOf (st : St) : Option Operand → Option (Option Int)
  | none => some none
  | some x =>
    match ixOf (st.op x) with
    | some i => some (some i)
    | none => none
/-- A cut's bounds, in the length. -/
def cutK (lo hi mx : Option Int) (len : Nat) (K : Option Nat → Option Nat → Option R) : Option R :=
  match mx with
  | none =>
    match lo with
    | none =>
      match hi with
      | none => K none none
      | some h => if 0 ≤ h ∧ h ≤ len then K none (some h.toNat) else none
    | some l =>
      match hi with
      | none => if 0 ≤ l ∧ l ≤ len then K (some l.toNat) none else none
      | some h => if 0 ≤ l ∧ l ≤ h ∧ h ≤ len then K (some l.toNat) (some h.toNat) else none
  | some m =>
    match hi with
    | none => none
    | some h =>
      match lo with
      | none => if 0 ≤ h ∧ h ≤ m ∧ m ≤ len then K none (some h.toNat) else none
      | some l => if 0 ≤ l ∧ l ≤ h ∧ h ≤ m ∧ m ≤ len then K (some l.toNat) (some h.toNat) else none
def cutL {α : Type} (lo hi : Option Nat) (xs : List α) : List α :=
  match hi with
  | none => match lo with | none => xs | some l => xs.drop l
  | some h => match lo with | none => xs.take h | some l => (xs.take h).drop l
def cutS (lo hi : Option Nat) (s : ByteArray) : ByteArray :=
  match hi with
  | none => match lo with | none => s | some l => s.extract l s.size
  | some h => match lo with | none => s.extract 0 h | some l => s.extract l h
def cutOff (lo : Option Nat) (off : Nat) : Nat := match lo with | none => off | some l => off + l
def cutLen (lo hi : Option Nat) (len : Nat) : Nat :=
  match hi with
  | none => match lo with | none => len | some l => len - l
  | some h => match lo with | none => h | some l => h - l

/-- What a test has told. -/
def St.know (st : St) (c : Operand) (b : Bool) : St :=
  match c with
  | .tmp t => st.put (some t) (.one (.bool b))
  | _ => st
def pcOf (st : St) (x : Operand) : PC :=
  match st.op x with
  | .a (.c p) => p
  | _ => .unk

def lenK (P : Program) (st : St) (xs : List Operand) (ts : List TypeId) (K : PC → Option R) : Option R :=
  match xs, ts with
  | [x], [t] =>
    match st.op x with
    | .a (.c p) =>
      match p with
      | .nil =>
        match elemP P t with
        | some _ => K (.int .i64 0)
        | none => none
      | .str s =>
        match P.underlying t with
        | some .string => K (.int .i64 s.size)
        | _ => none
      | p =>
        match st.sl? p, elemP P t with
        | some s, some _ => K (.int .i64 s.l.length)
        | _, _ => none
    | _ => none
  | _, _ => none
def foldsK (f : Int → Int → Int) (ps : List PC) (K : PC → Option R) : Option R :=
  match ps with
  | .int k x :: r => foldK f (.int k x) r K
  | _ => none
def appK (P : Program) (slot : Nat) (st : St) (xs : List Operand) (ts : List TypeId) (K : PV → St → Option R) : Option R :=
  match xs, ts with
  | [s, x], [t, u] =>
    if t = u then
      match elemP P t with
      | some e =>
        match cdOf P 8 e with
        | some c =>
          if zeroOk P e c && decide (0 < bytesP P e) then
            match st.op x with
            | .a (.c q) =>
              match st.sl? q with
              | some ys =>
                if h : ys.c = c then
                  match st.op s with
                  | .a (.c .nil) =>
                    match st.newAr (2 * slot) ⟨c, h ▸ ys.l, 0, false, false⟩ with
                    | some st1 => if ys.l.length * bytesP P e ≤ 140737488355328 then K (.one (.own (2 * slot) 0)) st1 else none
                    | none => none
                  | .a (.c (.own i ver)) =>
                    match st.arr? i ver with
                    | some A =>
                      if A.fz || A.lt then none else
                      if h2 : A.c = c then
                        if (A.l.length + ys.l.length) * bytesP P e ≤ 140737488355328 then K (.one (.own i (ver + 1))) (st.setAr i ⟨c, (h2 ▸ A.l) ++ (h ▸ ys.l), ver + 1, false, false⟩) else none
                      else none
                    | none => none
                  | _ => none
                else none
              | none => none
            | _ => none
          else none
        | none => none
      | none => none
    else none
  | _, _ => none
def opEq : Operand → Operand → Bool
  | .tmp i, .tmp j => i == j
  | .const (.int .i64 x), .const (.int .i64 y) => x == y
  | _, _ => false
def opK (P : Program) (sg : FuncId → Option Sh) (ih : FuncId → List AA → Option Res) (slot : Nat) (o : Oper) (st : St) (K : PV → St → Option R) : Option R :=
  match o.op with
  | .move x => K (st.op x) st
  | .assign x => K (st.op x) st
  | .pick c a b =>
    match st.op c with
    | .a (.c (.bool t)) => if t = true then K (st.op a) (st.know c true) else K (st.op b) (st.know c false)
    | _ => none
  | .alloc t =>
    match P.info? t with
    | some i =>
      match i.zero with
      | some z =>
        match arrC P t with
        | some (n, c) =>
          if isNilL (zeroIsN c n z.cells.toList) && decide (n * c.sz ≤ 16777216) then
            match st.newAr (2 * slot) ⟨c, List.replicate n c.dflt, 0, false, false⟩ with
            | some st1 => K (.one (.arr (2 * slot) 0 0 0)) st1
            | none => none
          else none
        | none =>
        match bldP P t with
        | some e =>
          if isFresh z.cells.toList && e != t then
            match st.newBx slot [.objc (.bld t e ⟨#[]⟩)] with
            | some st1 => K (.one (.box slot 0)) st1
            | none => none
          else none
        | none =>
        if (z.cells.toList.map constC).all known then
          match st.newBx slot (z.cells.toList.map constC) with
          | some st1 => K (.one (.box slot 0)) st1
          | none => none
        else none
      | none => none
    | none => none
  | .box _ x =>
    match st.op x with
    | .a pa =>
      match st.frozenA pa with
      | some (q, st1) =>
        match st1.newBx slot (paCells q) with
        | some st2 => K (.one (.box slot 0)) st2
        | none => none
      | none => none
    | _ => none
  | .build t parts =>
    match P.underlying t, P.info? t with
    | some (.struct fs), some i =>
      match i.zero, placesP P fs.toList with
      | some z, some pl =>
        match partsOf st parts.toList with
        | some (ps, st1) =>
          match fillK pl (z.cells.toList.map constC) ps with
          | some cs => K (.a (.agg cs)) st1
          | none => none
        | none => none
      | _, _ => none
    | some (.array n e), some i =>
      match i.zero, sizeP P e with
      | some z, some k =>
        match partsOf st parts.toList with
        | some (ps, st1) =>
          match fillK ((List.range n).map fun j => (j * k, k)) (z.cells.toList.map constC) ps with
          | some cs => K (.a (.agg cs)) st1
          | none => none
        | none => none
      | _, _ => none
    | _, _ => none
  | .buildSlice t len parts =>
    match elemP P t with
    | some e =>
      match cdOf P 8 e with
      | some c =>
        if parts.toList.length = len ∧ len * c.sz ≤ 16777216 ∧ zeroOk P e c = true ∧ 0 < len then
          match cellsOfParts c st 0 parts.toList with
          | some (l, st1) =>
            match st1.newAr (2 * slot) ⟨c, l, 0, false, false⟩ with
            | some st2 => K (.one (.own (2 * slot) 0)) st2
            | none => none
          | none => none
        else none
      | none => none
    | none => none
  | .load t a =>
    match st.op a, aggP P t, sizeP P t with
    | .a (.c p), some g, some n =>
      match st.cells? p n with
      | some cs =>
        match asVal g cs with
        | some v => K v st
        | none => none
      | none => none
    | _, _, _ => none
  | .store t a x =>
    match st.op a, st.op x, sizeP P t with
    | .a (.c p), .a pa, some n =>
      match st.frozenA pa with
      | some (q, st1) =>
        let vs := paCells q
        if vs.length = n then
          match p with
          | .box b off =>
            match st1.box? b with
            | some cs => if off + n ≤ cs.length then K (.tup []) (st1.setBx b (spliceC cs off vs)) else none
            | none => none
          | .arr i ver j off =>
            match st1.arr? i ver with
            | some A =>
              if A.fz then none else
              if off + n ≤ A.c.sz then
                match A.c.dec (spliceC (A.c.enc (A.l.getD j A.c.dflt)) off vs) with
                | some (y, []) => K (.tup []) (st1.setAr i { A with l := A.l.set j y })
                | _ => none
              else none
            | none => none
          | _ => none
        else none
      | none => none
    | _, _, _ => none
  | .nilCheck x =>
    match st.op x with
    | .a (.c (.box b off)) => K (.one (.box b off)) st
    | .a (.c (.elt c y off)) => K (.one (.elt c y off)) st
    | .a (.c (.arr i ver j off)) => (match st.arr? i ver with | some _ => K (.one (.arr i ver j off)) st | none => none)
    | _ => none
  | .binOp op t x y _ =>
    match st.op x, st.op y with
    | .a (.c p), .a (.c q) => binK (isBool P t) op p q fun r => K (.one r) st
    | _, _ => none
  | .unOp op _ x =>
    match st.op x with
    | .a (.c p) => unK op p fun r => K (.one r) st
    | _ => none
  | .convert src dst x =>
    match P.underlying src, P.underlying dst, st.op x with
    | some (.int _), some (.int k), .a (.c (.int _ n)) => K (.one (.int k (k.wrap n))) st
    | some .string, some .string, .a (.c (.str s)) => K (.one (.str s)) st
    | some (.slice e), some .string, .a (.c p) =>
      if isU8 P e then
        match p with
        | .nil => K (.one (.str ⟨#[]⟩)) st
        | p =>
          match st.sl? p with
          | some s =>
            match slDec (.int .u8) s with
            | some l => K (.one (.str (bytesS l))) st
            | none => none
          | none => none
      else none
    | _, _, _ => none
  | .makeSlice t n m =>
    match elemP P t with
    | some e =>
      match cdOf P 8 e with
      | some c =>
        match st.op n with
        | .a (.c (.int .i64 x)) =>
          if opEq n m && zeroOk P e c && decide (0 < bytesP P e) then
            match st.newAr (2 * slot) ⟨c, List.replicate x.toNat c.dflt, 0, false, false⟩ with
            | some st1 => if 0 ≤ x ∧ x * bytesP P e ≤ 140737488355328 then K (.one (.own (2 * slot) 0)) st1 else none
            | none => none
          else none
        | _ => none
      | none => none
    | none => none
  | .slice t x lo hi mx =>
    match bndOf st lo, bndOf st hi, bndOf st mx with
    | some l, some h, some m =>
      match st.op x with
      | .a (.c (.str s)) =>
        match P.underlying t, m with
        | some .string, none => cutK l h none s.size fun l h => K (.one (.str (cutS l h s))) st
        | _, _ => none
      | .a (.c p) =>
        match elemP P t with
        | some e =>
          match p with
          | .sl c xs => if sizeP P e = some c.sz then cutK l h m xs.length fun l h => K (.one (.sl c (cutL l h xs))) st else none
          | .own i ver =>
            match st.arr? i ver with
            | some A => if sizeP P e = some A.c.sz then cutK l h m A.l.length fun l h => K (.one (.view i ver (cutOff l 0) (cutLen l h A.l.length))) st else none
            | none => none
          | .view i ver off len =>
            match st.arr? i ver with
            | some A => if sizeP P e = some A.c.sz then cutK l h m len fun l h => K (.one (.view i ver (cutOff l off) (cutLen l h len))) st else none
            | none => none
          | _ => none
        | none =>
          match arrE P t with
          | some (n, e) =>
            match p with
            | .arr i ver 0 0 =>
              match st.arr? i ver with
              | some A => if sizeP P e = some A.c.sz ∧ A.l.length = n then cutK l h m n fun l h => K (.one (.view i ver (cutOff l 0) (cutLen l h n))) st else none
              | none => none
            | _ => none
          | none => none
      | _ => none
    | _, _, _ => none
  | .fieldAddr s x f =>
    match P.underlying s with
    | some (.struct fs) =>
      match fs[f]? with
      | some fl =>
        match sizeP P fl.type with
        | some n =>
          if 0 < n then
            match st.op x with
            | .a (.c (.box b off)) => K (.one (.box b (off + fl.offset))) st
            | .a (.c (.arr i ver j off)) => (match st.arr? i ver with | some _ => K (.one (.arr i ver j (off + fl.offset))) st | none => none)
            | .a (.c (.elt c y off)) => K (.one (.elt c y (off + fl.offset))) st
            | _ => none
          else none
        | none => none
      | none => none
    | _ => none
  | .field t x f =>
    match P.underlying t with
    | some (.struct fs) =>
      match fs[f]?, st.op x with
      | some fl, .a (.agg cs) =>
        match aggP P fl.type, sizeP P fl.type with
        | some g, some n =>
          match cellsAt cs fl.offset n with
          | some ds =>
            match asVal g ds with
            | some v => K v st
            | none => none
          | none => none
        | _, _ => none
      | _, _ => none
    | _ => none
  | .indexAddr t x i =>
    match elemP P t, ixOf (st.op i), st.op x with
    | some e, some n, .a (.c p) =>
      match st.sl? p with
      | some s => if sizeP P e = some s.c.sz then idxK st p n fun q => K (.one q) st else none
      | none => none
    | none, some n, .a (.c (.arr i ver 0 0)) =>
      match arrE P t with
      | some (m, e) =>
        match st.arr? i ver with
        | some A => if sizeP P e = some A.c.sz ∧ A.l.length = m then (if 0 ≤ n ∧ n < m then K (.one (.arr i ver n.toNat 0)) st else none) else none
        | none => none
      | none => none
    | none, some n, .a (.c (.box b off)) =>
      match arrE P t with
      | some (m, e) =>
        match sizeP P e with
        | some k => if 0 ≤ n ∧ n < m then K (.one (.box b (off + n.toNat * k))) st else none
        | none => none
      | none => none
    | _, _, _ => none
  | .index t x i =>
    match P.underlying t, ixOf (st.op i), st.op x with
    | some .string, some n, .a (.c (.str s)) => if 0 ≤ n ∧ n < s.size then K (.one (.int .u8 (sbyte s n))) st else none
    | some (.array m e), some n, .a (.agg cs) => if sizeP P e = some 1 ∧ aggP P e = some false ∧ cs.length = m then ixArr cs n fun q => K (.one q) st else none
    | _, _, _ => none
  | .range t x =>
    match P.underlying t, st.op x with
    | some .string, .a (.c (.str s)) =>
      match st.newBx slot [.objc (.iter s 0)] with
      | some st1 => K (.one (.box slot 0)) st1
      | none => none
    | _, _ => none
  | .next x true =>
    match st.op x with
    | .a (.c (.box b 0)) =>
      match st.ob? b with
      | some (.iter s pos) =>
        if pos < s.size then K (.tup [.c (.bool true), .c (.int .i64 pos), .c (.int .i32 (Utf8.decode s pos).1)]) (st.setBx b [.objc (.iter s (pos + (Utf8.decode s pos).2))])
        else K (.tup [.c (.bool false)]) st
      | _ => none
    | _ => none
  | .extract x i =>
    match st.op x with
    | .tup xs =>
      match xs[i]? with
      | some pa => K (.a pa) st
      | none => none
    | _ => none
  | .call c =>
    match c.callee with
    | .value (.func g) => callK sg ih slot g c.args.toList st K
    | .builtin .len => lenK P st c.args.toList c.argTypes.toList fun q => K (.one q) st
    | .builtin .max => foldsK maxI (c.args.toList.map (pcOf st)) fun q => K (.one q) st
    | .builtin .min => foldsK minI (c.args.toList.map (pcOf st)) fun q => K (.one q) st
    | .builtin .append => appK P slot st c.args.toList c.argTypes.toList K
    | _ => none
  | _ => none
end

/-! ## Regions -/
section
variable {R : Type}
/-- Is the operation's guard met? -/
def wantedK (ops : List Oper) (o : Oper) (st : St) (yes no : St → Option R) : Option R :=
  match o.guard with
  | none => yes st
  | some (j, want) =>
    match ops[j]? with
    | some oj =>
      match oj.dst with
      | some d =>
        match st.get d with
        | .a (.c (.bool b)) => if b = want then yes (st.put (some d) (.one (.bool want))) else no (st.put (some d) (.one (.bool (!want))))
        | .tup _ => no st
        | _ => none
      | none => no st
    | none => no st
def regK (P : Program) (sg : FuncId → Option Sh) (ih : FuncId → List AA → Option Res) (ops : List Oper) : Nat → List Oper → St → (St → Option R) → Option R
  | _, [], st, K => K st
  | slot, o :: r, st, K =>
    wantedK ops o st
      (fun st => opK P sg ih slot o st fun v st1 => regK P sg ih ops (slot + 1) r (st1.put o.dst v) K)
      (fun st => regK P sg ih ops (slot + 1) r (st.put o.dst (.tup [])) K)
end

/-! ## Code -/
inductive Ex where
  | normal | exit (id : Nat) | ret | goto (l : Nat)
/-- A cell that leads to nothing of the call's own. -/
def plainC : PC → Bool
  | .own _ _ => false
  | .view _ _ _ _ => false
  | .box _ _ => false
  | .arr _ _ _ _ => false
  | .elt _ _ _ => false
  | .unk => false
  | .objc _ => false
  | _ => true
def plainOr (p : PC) : PC := if plainC p then p else .unk
/-- How a variable is carried round a loop. -/
inductive Md where
  | keep | frz | mine (c : Cd) | pl (c : Cd)
/-- A nil slice as an empty one. -/
def nilP (c : Cd) : PC → PC
  | .nil => .sl c []
  | p => p
def nilV (c : Cd) : PV → PV
  | .a (.c p) => .one (nilP c p)
  | v => v
def St.grow (st : St) (n : Nat) : St := { st with bx := st.bx ++ List.replicate n none, ar := st.ar ++ List.replicate (2 * n) none }
/-- Ahead of a loop: rows that are nil and grow have a name. -/
def enterSt : List (Nat × Md) → St → Option St
  | [], st => some st
  | (t, .mine c) :: r, st =>
    match st.get t with
    | .a (.c .nil) => let s := st.bx.length; enterSt r (((st.grow 1).setAr (2 * s) ⟨c, [], 0, false, false⟩).put (some t) (.one (.own (2 * s) 0)))
    | _ => enterSt r st
  | _ :: r, st => enterSt r st
def keepV (st : St) (na : Nat) (m : Md) (v : PV) : PV :=
  match m with
  | .keep =>
    match v with
    | .tup [] => .tup []
    | .tup _ => .one .unk
    | .a (.agg ps) => .a (.agg (ps.map plainOr))
    | .a (.c p) =>
      match p with
      | .own i ver => match st.arr? i ver with | some _ => if i < na then .one (.own i 0) else .one .unk | none => .one .unk
      | .view i ver off len => match st.arr? i ver with | some _ => if i < na then .one (.view i 0 off len) else .one .unk | none => .one .unk
      | .arr i ver j off => match st.arr? i ver with | some _ => if i < na then .one (.arr i 0 j off) else .one .unk | none => .one .unk
      | .box b off => if 2 * b < na then .one (.box b off) else .one .unk
      | p => .one p
  | .mine _ =>
    match v with
    | .a (.c (.own i ver)) => match st.arr? i ver with | some _ => if i < na then .one (.own i 0) else .one .unk | none => .one .unk
    | _ => .one .unk
  | .frz =>
    match v with
    | .a (.c p) =>
      match p with
      | .own i ver => match st.arr? i ver with | some A => if A.fz then .one (.sl A.c A.l) else .one .unk | none => .one .unk
      | .view i ver off len => match st.arr? i ver with | some A => if A.fz then .one (.sl A.c ((A.l.drop off).take len)) else .one .unk | none => .one .unk
      | .sl c l => .one (.sl c l)
      | .nil => .one .nil
      | _ => .one .unk
    | _ => .one .unk
  | .pl c =>
    match v with
    | .a (.agg ps) => .a (.agg (ps.map fun p => nilP c (plainOr p)))
    | .a (.c p) =>
      match p with
      | .own i ver => match st.arr? i ver with | some A => if A.fz then .one (.sl A.c A.l) else .one .unk | none => .one .unk
      | .view i ver off len => match st.arr? i ver with | some A => if A.fz then .one (.sl A.c ((A.l.drop off).take len)) else .one .unk | none => .one .unk
      | .sl c l => .one (.sl c l)
      | .nil => .one (.sl c [])
      | _ => .one .unk
    | _ => .one .unk
def mdOf : List (Nat × Md) → Nat → Option Md
  | [], _ => none
  | (t, m) :: r, i => if t = i then some m else mdOf r i
def keepL (H : List (Nat × Md)) (st : St) (na : Nat) : Nat → List PV → List PV
  | _, [] => []
  | i, v :: r => (match mdOf H i with | some m => keepV st na m v | none => .one .unk) :: keepL H st na (i + 1) r
/-- The rows that a loop's variables turn into plain ones. -/
def frzL (st : St) : List (Nat × Md) → List Nat
  | [] => []
  | (t, .frz) :: r =>
    match st.get t with
    | .a (.c (.own i _)) => i :: frzL st r
    | .a (.c (.view i _ _ _)) => i :: frzL st r
    | _ => frzL st r
  | (t, .pl _) :: r =>
    match st.get t with
    | .a (.c (.own i _)) => i :: frzL st r
    | .a (.c (.view i _ _ _)) => i :: frzL st r
    | _ => frzL st r
  | _ :: r => frzL st r
def frzRows : List Nat → St → St
  | [], st => st
  | i :: r, st =>
    match st.ar.getD i none with
    | some A => if A.lt then frzRows r st else frzRows r (st.setAr i { A with fz := true })
    | none => frzRows r st
def bxK (m : Option Md) (cs : List PC) : List PC :=
  match obOf cs with
  | some _ => cs
  | none =>
    match m with
    | some (.pl c) => cs.map fun p => nilP c (plainOr p)
    | _ => cs.map plainOr
/-- Boxes' hints stand behind the temporaries'. -/
def bxH : Nat := 1000000
def bxL (H : List (Nat × Md)) : Nat → List (Option (List PC)) → List (Option (List PC))
  | _, [] => []
  | i, none :: r => none :: bxL H (i + 1) r
  | i, some cs :: r => some (bxK (mdOf H (bxH + i)) cs) :: bxL H (i + 1) r
def arL : List (Option AR) → List (Option AR)
  | [] => []
  | none :: r => none :: arL r
  | some A :: r => some { A with ver := 0 } :: arL r
def cutSt (H : List (Nat × Md)) (nb : Nat) (st : St) : St :=
  let st1 := frzRows (frzL st H) st
  { tm := keepL H st1 (2 * nb) 0 st1.tm, bx := bxL H 0 (st1.bx.take nb), ar := arL (st1.ar.take (2 * nb)) }
def looseC (p : PC) : Bool := plainC p || (match p with | .unk => true | _ => false)
/-- May a value name the box, the row? -/
def namesB (b : Nat) : PV → Bool
  | .a (.c (.box i _)) => i == b
  | .a (.c _) => false
  | .a (.agg ps) => !ps.all looseC
  | .tup xs => !xs.isEmpty
def namesA (i : Nat) : PV → Bool
  | .a (.c (.own j _)) => j == i
  | .a (.c (.view j _ _ _)) => j == i
  | .a (.c (.arr j _ _ _)) => j == i
  | .a (.c _) => false
  | .a (.agg ps) => !ps.all looseC
  | .tup xs => !xs.isEmpty
def dropB (tm : List PV) : Nat → List (Option (List PC)) → List (Option (List PC))
  | _, [] => []
  | b, none :: r => none :: dropB tm (b + 1) r
  | b, some cs :: r => (if tm.any (namesB b) = true then some cs else none) :: dropB tm (b + 1) r
def dropA (tm : List PV) : Nat → List (Option AR) → List (Option AR)
  | _, [] => []
  | i, none :: r => none :: dropA tm (i + 1) r
  | i, some A :: r => (if (A.lt || tm.any (namesA i)) = true then some A else none) :: dropA tm (i + 1) r
/-- What nothing names is forgotten. -/
def dropSt (st : St) : St := { tm := st.tm, bx := dropB st.tm 0 st.bx, ar := dropA st.tm 0 st.ar }
def cutD (H : List (Nat × Md)) (nb : Nat) (st : St) : St := dropSt (cutSt H nb st)
/-- Where ways meet: what is told of the state from then on. -/
def joinSt (H : List (Nat × Md)) (st : St) : St := cutD H st.bx.length st
def firstR : Code → Nat
  | .region id _ _ => id
  | .seq a _ => firstR a
  | .cond _ a _ => firstR a
  | .block _ a => firstR a
  | .loop a => firstR a
  | _ => 0
def hasR (r : Nat) : Code → Bool
  | .region id _ _ => id == r
  | .seq a b => hasR r a || hasR r b
  | .cond _ a b => hasR r a || hasR r b
  | .block _ a => hasR r a
  | .loop a => hasR r a
  | _ => false
/-- The hints of a meeting point stand behind the loops'. -/
def jn (r : Nat) : Nat := 100000 + r
section
variable {R : Type}
def loopK (body : St → (Ex → St → Option R) → Option R) (cut : St → St) : Nat → St → (Ex → St → Option R) → Option R
  | 0, _, _ => none
  | n + 1, st, K => body st fun ex st1 =>
    match ex with
    | .normal => loopK body cut n (cut st1) K
    | .exit i => K (.exit i) st1
    | .ret => K .ret st1
    | .goto l => K (.goto l) st1
/-- Places for boxes and rows that a text asks for, at most. -/
def slotsIn : Code → Nat
  | .region _ ops _ => ops.size
  | .seq a b => slotsIn a + slotsIn b
  | .cond _ a b => slotsIn a + slotsIn b
  | .block _ a => slotsIn a
  | .loop a => slotsIn a + 8
  | .scope a => slotsIn a
  | _ => 0
/-- Where ways meet again, places are numbered alike. -/
def St.pad (st : St) (L : Nat) : St := st.grow (L - st.bx.length)
def padK (L : Nat) (K : Ex → St → Option R) (ex : Ex) (st : St) : Option R :=
  match ex with
  | .normal => K .normal (st.pad L)
  | .exit i => K (.exit i) st
  | .ret => K .ret st
  | .goto l => K (.goto l) st
def loopsIn : Code → Nat
  | .seq a b => loopsIn a + loopsIn b
  | .cond _ a b => loopsIn a + loopsIn b
  | .block _ a => loopsIn a
  | .loop a => loopsIn a + 1
  | .scope a => loopsIn a
  | _ => 0
/-- What an operation that only looks comes to. -/
def reader (o : Oper) : Bool :=
  match o.op with
  | .move _ | .assign _ | .pick _ _ _ | .load _ _ | .nilCheck _ | .binOp _ _ _ _ _ | .unOp _ _ _ | .convert _ _ _ | .slice _ _ _ _ _ | .fieldAddr _ _ _ | .field _ _ _ | .indexAddr _ _ _ | .index _ _ _ | .extract _ _ => true
  | .call c => (match c.callee with | .builtin .len | .builtin .max | .builtin .min => true | _ => false)
  | _ => false
def freshN : List SA → Nat
  | [] => 0
  | .fresh _ :: r => freshN r + 1
  | .one _ :: r => freshN r
  | .agg _ :: r => freshN r
/-- Operations that make something, and change nothing that was there. -/
def maker (sg : FuncId → Option Sh) (o : Oper) : Bool :=
  match o.op with
  | .alloc _ | .box _ _ | .build _ _ | .buildSlice _ _ _ | .makeSlice _ _ _ => true
  | .call c =>
    match c.callee with
    | .value (.func g) => (match sg g with | some sh => sh.obj.isNone && sh.lent.isEmpty && decide (freshN sh.rs ≤ 2) | none => false)
    | _ => false
  | _ => false
def quiet (sg : FuncId → Option Sh) (o : Oper) : Bool := reader o || maker sg o
/-- What an operation looks at: its operands, its guard. -/
def looks (ops : List Oper) (o : Oper) : List Operand :=
  (match o.guard with
    | none => []
    | some (j, _) => (match ops[j]? with | some oj => (match oj.dst with | some d => [.tmp d] | none => []) | none => [])) ++ o.op.operands.toList
/-- The operands, as a list from the start. -/
def opsL : Op → List Operand
  | .alloc _ => []
  | .move x | .assign x | .box _ x | .load _ x | .nilCheck x | .unOp _ _ x | .convert _ _ x | .fieldAddr _ x _ | .field _ x _ | .extract x _ => [x]
  | .pick c a b => [c, a, b]
  | .build _ ps | .buildSlice _ _ ps => ps.toList.map (·.2)
  | .store _ a v | .binOp _ _ a v _ | .makeSlice _ a v | .indexAddr _ a v | .index _ a v => [a, v]
  | .slice _ x l h m => [x] ++ l.toList ++ h.toList ++ m.toList
  | .call c =>
    match c.callee with
    | .value f => f :: c.args.toList
    | .invoke r _ => r :: c.args.toList
    | .builtin _ => c.args.toList
  | o => o.operands.toList
def looksL (ops : List Oper) (o : Oper) : List Operand :=
  (match o.guard with
    | none => []
    | some (j, _) => (match ops[j]? with | some oj => (match oj.dst with | some d => [.tmp d] | none => []) | none => [])) ++ opsL o.op
def isTmp (d : Tmp) : Operand → Bool
  | .tmp t => t == d
  | _ => false
def apartB (ops : List Oper) (i j : Oper) : Bool :=
  (match i.dst with | some d => !(looksL ops j).any (isTmp d) && j.dst != some d | none => true) && (match j.dst with | some d => !(looksL ops i).any (isTmp d) | none => true)
def edgeB (o : Oper) (p : Nat) : Bool := o.after.toList.any fun e => Region.binds .any e && e.on == p
/-- Operations that look at variables alone. -/
def tpure (o : Oper) : Bool :=
  match o.op with
  | .move _ | .assign _ | .extract _ _ | .binOp _ _ _ _ _ | .unOp _ _ _ => true
  | _ => false
/-- Writers: a store, a call, an append. -/
def writer (sg : FuncId → Option Sh) (o : Oper) : Bool :=
  match o.op with
  | .store _ _ _ => true
  | .call c =>
    match c.callee with
    | .value (.func g) => (match sg g with | some sh => sh.obj.isNone | none => false)
    | .builtin .append => true
    | _ => false
  | _ => false
def dstB (ops : List Oper) (c : Tmp) : Bool := ops.any fun o => o.dst == some c
/-- The variable never names the box: as it was, or the address of a part of another one. -/
def okDB (st : St) (ops : List Oper) (b : Nat) (c : Tmp) : Bool :=
  !namesB b (st.op (.tmp c)) && ops.all fun o => o.dst != some c || (match o.op with | .fieldAddr _ (.tmp c1) _ => !dstB ops c1 && !namesB b (st.op (.tmp c1)) | _ => false)
/-- Does x look at no box that y stores into? -/
def boxApB (st : St) (ops : List Oper) (x y : Oper) : Bool :=
  reader x && (match y.op with
    | .store _ (.tmp a) _ =>
      !dstB ops a && (match st.op (.tmp a) with
        | .a (.c (.box b _)) => (looksL ops x).all fun z => (match z with | .tmp c => x.dst != some c && okDB st ops b c | _ => true)
        | _ => false)
    | _ => false)
/-- A call that hands over plain values alone. -/
def callerB (sg : FuncId → Option Sh) (o : Oper) : Bool :=
  match o.op with
  | .call c =>
    match c.callee with
    | .value (.func g) => o.guard.isNone && (match sg g with | some sh => sh.obj.isNone && sh.lent.isEmpty && decide (freshN sh.rs ≤ 2) | none => false)
    | _ => false
  | .build _ _ => o.guard.isNone
  | _ => false
/-- A store into a box that was there before. -/
def storerB (st : St) (ops : List Oper) (o : Oper) : Bool :=
  match o.op with
  | .store _ (.tmp a) _ =>
    o.guard.isNone && !dstB ops a && (match st.op (.tmp a) with
      | .a (.c (.box b _)) => decide (b < st.bx.length)
      | _ => false)
  | _ => false
def pairB (sg : FuncId → Option Sh) (st : St) (ops : List Oper) (x y : Oper) : Bool :=
  ((quiet sg x && quiet sg y) || (tpure x && writer sg y) || (writer sg x && tpure y) || (boxApB st ops x y && ops.all fun o => quiet sg o || writer sg o) || (callerB sg x && storerB st ops y && ops.all fun o => quiet sg o || writer sg o)) && apartB ops x y
/-- Is the operation apart from those before it (numbered from p on), or behind them? -/
def drawRow (sg : FuncId → Option Sh) (st : St) (ops : List Oper) (y : Oper) : Nat → List Oper → Bool
  | _, [] => true
  | p, x :: r => (edgeB y p || pairB sg st ops x y) && drawRow sg st ops y (p + 1) r
def drawGo (sg : FuncId → Option Sh) (st : St) (ops : List Oper) : Nat → List Oper → Bool
  | _, [] => true
  | q, y :: r => y.after.toList.all (fun e => !Region.binds .any e || decide (e.on < q)) && drawRow sg st ops y 0 (ops.take q) && drawGo sg st ops (q + 1) r
/-- May a region that asks for an order be done in the text's order? -/
def drawOk (P : Program) (sg : FuncId → Option Sh) (st : St) (ops : List Oper) : Bool := P.follows .mixedOrders && drawGo sg st ops 0 ops
mutual
def codeK (P : Program) (sg : FuncId → Option Sh) (ih : FuncId → List AA → Option Res) (n : Nat) (H : Nat → List (Nat × Md)) : Code → Nat → St → (Ex → St → Option R) → Option R
  | .skip, _, st, K => K .normal st
  | .region _ ops draw, _, st, K =>
    if draw && !drawOk P sg st ops.toList then none else
    regK P sg ih ops.toList st.bx.length ops.toList (st.grow ops.toList.length) fun st1 => K .normal st1
  | .seq a b, q, st, K => codeK P sg ih n H a q st fun ex st1 =>
    match ex with
    | .normal =>
      match H (jn (firstR b)) with
      | [] => codeK P sg ih n H b (q + loopsIn a) st1 K
      | h :: hs => joinC n (fun st2 => codeK P sg ih n H b (q + loopsIn a) st2 K) (joinSt (h :: hs) st1)
    | .exit i => K (.exit i) st1
    | .ret => K .ret st1
    | .goto l => K (.goto l) st1
  | .cond c a b, q, st, K =>
    let L := st.bx.length + (slotsIn a + slotsIn b)
    match st.op c with
    | .a (.c (.bool t)) => if t = true then codeK P sg ih n H a q (st.know c true) (padK L K) else codeK P sg ih n H b (q + loopsIn a) (st.know c false) (padK L K)
    | _ => none
  | .block i a, q, st, K =>
    let L := st.bx.length + slotsIn a
    codeK P sg ih n H a q st fun ex st1 =>
    match ex with
    | .normal => K .normal (st1.pad L)
    | .exit j => if j = i then K .normal (st1.pad L) else K (.exit j) st1
    | .ret => K .ret st1
    | .goto l => K (.goto l) st1
  | .loop a, q, st, K =>
    match enterSt (H q) st with
    | some st0 => loopK (codeK P sg ih n H a (q + 1)) (cutD (H q) st0.bx.length) n (cutD (H q) st0.bx.length st0) K
    | none => none
  | .exit i, _, st, K => K (.exit i) st
  | .ret, _, st, K => K .ret st
  | .label _, _, st, K => K .normal st
  | .goto l, _, st, K => K (.goto l) st
  | .scope c, q, st, K => codeK P sg ih n H c q st fun ex st1 =>
    match ex with
    | .goto l => fromK P sg ih n H c l q st1 fun ex st2 =>
      match ex with
      | .goto _ => none
      | .normal => K .normal st2
      | .exit i => K (.exit i) st2
      | .ret => K .ret st2
    | .normal => K .normal st1
    | .exit i => K (.exit i) st1
    | .ret => K .ret st1
  | _, _, _, _ => none
/-- From a label on: what a jump comes to. -/
def fromK (P : Program) (sg : FuncId → Option Sh) (ih : FuncId → List AA → Option Res) (n : Nat) (H : Nat → List (Nat × Md)) : Code → Nat → Nat → St → (Ex → St → Option R) → Option R
  | .seq a b, l, q, st, K =>
    match findLabel a l with
    | some _ => fromK P sg ih n H a l q st fun ex st1 =>
      match ex with
      | .normal =>
        match H (jn (firstR b)) with
        | [] => codeK P sg ih n H b (q + loopsIn a) st1 K
        | h :: hs => joinC n (fun st2 => codeK P sg ih n H b (q + loopsIn a) st2 K) (joinSt (h :: hs) st1)
      | .exit i => K (.exit i) st1
      | .ret => K .ret st1
      | .goto l => K (.goto l) st1
    | none => fromK P sg ih n H b l (q + loopsIn a) st K
  | .label l', l, _, st, K => if (l' == l) = true then K .normal st else none
  | _, _, _, _, _ => none
end
end

/-! ## Functions -/
def initTm : Nat → List AA → List PV
  | _, [] => []
  | j, .v x :: r => .a x :: initTm j r
  | j, .lent _ :: r => .one (.own j 0) :: initTm (j + 1) r
def initAr : List AA → List (Option AR)
  | [] => []
  | .v _ :: r => initAr r
  | .lent s :: r => some ⟨s.c, s.l, 0, false, true⟩ :: initAr r
def initSt (n : Nat) (as : List AA) : St :=
  let ar := initAr as
  { tm := initTm 0 as ++ List.replicate (n - as.length) (.tup []), bx := List.replicate ar.length none, ar := ar ++ List.replicate ar.length none }
def outOne (P : Program) (st : St) (r : ResultVar) (seen : List Nat) : Option (RA × St × List Nat) :=
  match r with
  | .tmp t =>
    match st.get t with
    | .a pa =>
      match pa with
      | .c (.own i ver) =>
        match st.arr? i ver with
        | some A =>
          if A.fz then some (.v (.c (.sl A.c A.l)), st, seen) else
          if A.lt || seen.contains i then none else some (.fresh A.c A.l, st, i :: seen)
        | none => none
      | pa =>
        match st.frozenA pa with
        | some (q, st1) => some (.v q, st1, seen)
        | none => none
    | _ => none
  | .cell a t =>
    match st.get a, aggP P t, sizeP P t with
    | .a (.c p), some g, some n =>
      match st.cells? p n with
      | some cs =>
        if cs.all plainC then
          match asVal g cs with
          | some (.a pa) => some (.v pa, st, seen)
          | _ => none
        else none
      | none => none
    | _, _, _ => none
def outAll (P : Program) : List ResultVar → St → List Nat → Option (List RA × St × List Nat)
  | [], st, seen => some ([], st, seen)
  | r :: rs, st, seen =>
    match outOne P st r seen with
    | some (x, st1, seen1) =>
      match outAll P rs st1 seen1 with
      | some (xs, st2, seen2) => some (x :: xs, st2, seen2)
      | none => none
    | none => none
def noneFz (st : St) : List Nat → Bool
  | [] => true
  | i :: r => (match st.ar.getD i none with | some A => !A.fz | none => false) && noneFz st r
def lentOut : List (Option AR) → Nat → Option (List SL)
  | _, 0 => some []
  | some A :: r, m + 1 => if A.fz then none else
    match lentOut r m with
    | some l => some (⟨A.c, A.l⟩ :: l)
    | none => none
  | _, _ => none
def lentN : List AA → Nat
  | [] => 0
  | .v _ :: r => lentN r
  | .lent _ :: r => lentN r + 1
def doneK (P : Program) (fn : Func) (m : Nat) (ex : Ex) (st : St) : Option Res :=
  let done :=
    match outAll P fn.results.toList st [] with
    | some (rs, st1, seen) =>
      if noneFz st1 seen then
        match lentOut st1.ar m with
        | some mu => some ⟨rs, mu⟩
        | none => none
      else none
    | none => none
  match ex with
  | .normal => done
  | .ret => done
  | _ => none
def funK (P : Program) (sg : FuncId → Option Sh) (H : FuncId → Nat → List (Nat × Md)) (ih : FuncId → List AA → Option Res) (n : Nat) (f : FuncId) (as : List AA) : Option Res :=
  match P.funcs[f]? with
  | some fn =>
    match fn.body with
    | some c =>
      if as.length = fn.params.size ∧ as.length ≤ fn.ntmps then
        codeK P sg ih n (H f) c 0 (initSt fn.ntmps as) (doneK P fn (lentN as))
      else none
    | none => none
  | none => none
/-- What a call comes to, with so many rounds. -/
def aCall (P : Program) (sg : FuncId → Option Sh) (H : FuncId → Nat → List (Nat × Md)) (X : FuncId → Option (List AA → Option Res)) : Nat → FuncId → List AA → Option Res
  | 0, _, _ => none
  | k + 1, f, as =>
    match X f with
    | some h => h as
    | none => funK P sg H (aCall P sg H X k) k f as

/-! ## A loop's head, by its number -/
section
variable {R : Type}
/-- From the head of loop number q on; ns: the rounds left of the loops around it, the inmost last; nb: their numbers of boxes. -/
def headK (P : Program) (sg : FuncId → Option Sh) (ih : FuncId → List AA → Option Res) (n : Nat) (H : Nat → List (Nat × Md)) (q : Nat) (nb : Nat) (m : Nat) : Nat → List (Nat × Nat) → Code → Nat → St → (Ex → St → Option R) → Option R
  | len, ns, .seq a b, p, st, K =>
    match (p + loopsIn a).ble q with
    | false => headK P sg ih n H q nb m len ns a p st fun ex st1 =>
        match ex with
        | .normal =>
          match H (jn (firstR b)) with
          | [] => codeK P sg ih n H b (p + loopsIn a) st1 K
          | h :: hs => joinC n (fun st2 => codeK P sg ih n H b (p + loopsIn a) st2 K) (joinSt (h :: hs) st1)
        | .exit i => K (.exit i) st1
        | .ret => K .ret st1
        | .goto l => K (.goto l) st1
    | true => headK P sg ih n H q nb m (len + slotsIn a) ns b (p + loopsIn a) st K
  | len, ns, .cond _ a b, p, st, K =>
    let L := len + (slotsIn a + slotsIn b)
    match (p + loopsIn a).ble q with | false => headK P sg ih n H q nb m len ns a p st (padK L K) | true => headK P sg ih n H q nb m len ns b (p + loopsIn a) st (padK L K)
  | len, ns, .block i a, p, st, K =>
    let L := len + slotsIn a
    headK P sg ih n H q nb m len ns a p st fun ex st1 =>
    match ex with
    | .normal => K .normal (st1.pad L)
    | .exit j => if j = i then K .normal (st1.pad L) else K (.exit j) st1
    | .ret => K .ret st1
    | .goto l => K (.goto l) st1
  | _, ns, .loop a, p, st, K =>
    if q = p then loopK (codeK P sg ih n H a (p + 1)) (cutD (H p) nb) m st K
    else
      match ns with
      | [] => none
      | (m', nb') :: ns => headK P sg ih n H q nb m nb' ns a (p + 1) st fun ex st1 =>
        match ex with
        | .normal => loopK (codeK P sg ih n H a (p + 1)) (cutD (H p) nb') m' (cutD (H p) nb' st1) K
        | .exit i => K (.exit i) st1
        | .ret => K .ret st1
        | .goto l => K (.goto l) st1
  | _, _, _, _, _, _ => none
/-- From behind a meeting point on. -/
def joinK (fl : Bool) (P : Program) (sg : FuncId → Option Sh) (ih : FuncId → List AA → Option Res) (n : Nat) (H : Nat → List (Nat × Md)) (tgt : Nat) : Nat → List (Nat × Nat) → Code → Nat → St → (Ex → St → Option R) → Option R
  | len, ns, .seq a b, p, st, K =>
    match (firstR b).beq tgt with
    | true => (match fl with | true => joinC n (fun st2 => codeK P sg ih n H b (p + loopsIn a) st2 K) st | false => codeK P sg ih n H b (p + loopsIn a) st K)
    | false => match hasR tgt a with
     | true => joinK fl P sg ih n H tgt len ns a p st fun ex st1 =>
        match ex with
        | .normal =>
          match H (jn (firstR b)) with
          | [] => codeK P sg ih n H b (p + loopsIn a) st1 K
          | h :: hs => joinC n (fun st2 => codeK P sg ih n H b (p + loopsIn a) st2 K) (joinSt (h :: hs) st1)
        | .exit i => K (.exit i) st1
        | .ret => K .ret st1
        | .goto l => K (.goto l) st1
     | false => joinK fl P sg ih n H tgt (len + slotsIn a) ns b (p + loopsIn a) st K
  | len, ns, .cond _ a b, p, st, K =>
    let L := len + (slotsIn a + slotsIn b)
    match hasR tgt a with | true => joinK fl P sg ih n H tgt len ns a p st (padK L K) | false => joinK fl P sg ih n H tgt len ns b (p + loopsIn a) st (padK L K)
  | len, ns, .block i a, p, st, K =>
    let L := len + slotsIn a
    joinK fl P sg ih n H tgt len ns a p st fun ex st1 =>
    match ex with
    | .normal => K .normal (st1.pad L)
    | .exit j => if j = i then K .normal (st1.pad L) else K (.exit j) st1
    | .ret => K .ret st1
    | .goto l => K (.goto l) st1
  | _, ns, .loop a, p, st, K =>
    match ns with
    | [] => none
    | (m', nb') :: ns => joinK fl P sg ih n H tgt nb' ns a (p + 1) st fun ex st1 =>
      match ex with
      | .normal => loopK (codeK P sg ih n H a (p + 1)) (cutD (H p) nb') m' (cutD (H p) nb' st1) K
      | .exit i => K (.exit i) st1
      | .ret => K .ret st1
      | .goto l => K (.goto l) st1
  | _, _, _, _, _, _ => none
end
def mkTm : Nat → Nat → List (Nat × PV) → List PV
  | 0, _, _ => []
  | n + 1, i, l => (match l with | (j, v) :: _ => if j = i then v else .one .unk | [] => .one .unk) :: mkTm n (i + 1) (match l with | (j, v) :: r => if j = i then r else (j, v) :: r | [] => [])
def mkOpt {α : Type} : Nat → Nat → List (Nat × α) → List (Option α)
  | 0, _, _ => []
  | n + 1, i, l => (match l with | (j, v) :: _ => if j = i then some v else none | [] => none) :: mkOpt n (i + 1) (match l with | (j, v) :: r => if j = i then r else (j, v) :: r | [] => [])
/-- A function from a loop's head on. -/
def headF (P : Program) (sg : FuncId → Option Sh) (H : FuncId → Nat → List (Nat × Md)) (X : FuncId → Option (List AA → Option Res)) (k : Nat) (f q lent : Nat) (m nb : Nat) (ns : List (Nat × Nat)) (tm : List PV) (bx : List (Nat × List PC)) (ar : List (Nat × AR)) : Option Res :=
  match P.funcs[f]? with
  | some fn =>
    match fn.body with
    | some c => headK P sg (aCall P sg H X k) k (H f) q nb m lent ns c 0 ⟨tm, mkOpt nb 0 bx, mkOpt (2 * nb) 0 ar⟩ (doneK P fn lent)
    | none => none
  | none => none
/-- A function from a meeting point on. -/
def joinF (fl : Bool) (P : Program) (sg : FuncId → Option Sh) (H : FuncId → Nat → List (Nat × Md)) (X : FuncId → Option (List AA → Option Res)) (k : Nat) (f tgt lent : Nat) (nb : Nat) (ns : List (Nat × Nat)) (tm : List PV) (bx : List (Nat × List PC)) (ar : List (Nat × AR)) : Option Res :=
  match P.funcs[f]? with
  | some fn =>
    match fn.body with
    | some c => joinK fl P sg (aCall P sg H X k) k (H f) tgt lent ns c 0 ⟨tm, mkOpt nb 0 bx, mkOpt (2 * nb) 0 ar⟩ (doneK P fn lent)
    | none => none
  | none => none
theorem joinK_open {R : Type} (P : Program) (sg : FuncId → Option Sh) (ih : FuncId → List AA → Option Res) (n : Nat) (H : Nat → List (Nat × Md)) (tgt : Nat) : ∀ (c : Code) (len : Nat) (ns : List (Nat × Nat)) (p : Nat) (st : St) (K : Ex → St → Option R), joinK true P sg ih n H tgt len ns c p st K = joinK false P sg ih n H tgt len ns c p st K := by
  intro c
  induction c with
  | seq a b iha ihb => intro len ns p st K; simp only [joinK, joinC_eq, iha, ihb, if_true, Bool.false_eq_true, if_false]
  | cond x a b iha ihb => intro len ns p st K; simp only [joinK, iha, ihb]
  | block i a iha => intro len ns p st K; simp only [joinK, iha]
  | loop a iha => intro len ns p st K; rcases ns with _ | ⟨⟨m, nb⟩, ns⟩ <;> simp only [joinK, iha]
  | _ => intro len ns p st K; simp only [joinK]
theorem joinF_open (P : Program) (sg : FuncId → Option Sh) (H : FuncId → Nat → List (Nat × Md)) (X : FuncId → Option (List AA → Option Res)) (k : Nat) (f tgt lent : Nat) (nb : Nat) (ns : List (Nat × Nat)) (tm : List PV) (bx : List (Nat × List PC)) (ar : List (Nat × AR)) : joinF true P sg H X k f tgt lent nb ns tm bx ar = joinF false P sg H X k f tgt lent nb ns tm bx ar := by
  unfold joinF
  split
  · split
    · exact joinK_open ..
    · rfl
  · rfl
end Go.Eng
end
section
set_option linter.unusedVariables false
set_option linter.unusedSimpArgs false
namespace Go.Eng

/-! ## What an abstract value stands for -/
/-- Where a row lies: its block, its first cell, its capacity, its elements' type; none: it is nil. -/
abbrev Place := Option (Nat × Nat × Nat × TypeId)
structure Env where
  bx : Nat → Nat
  fp : Nat → List Nat
  ar : Nat → Place
def flatV (c : Cd) (l : List c.ty) : List Value := l.flatMap c.encV
def Holds (w : World) (g o : Nat) (vs : List Value) : Prop :=
  ∃ cur e fr, w.heap[g]? = some (.cells cur e fr) ∧ ∀ j u, vs[j]? = some u → cur[o + j]? = some u
def RelC (w : World) (E : Env) (ok : Nat → Prop) (st : St) : PC → Value → Prop
  | .unk, _ => True
  | .int k n, v => v = .int k n
  | .bool b, v => v = .bool b
  | .str s, v => v = .string s
  | .nil, v => v = .slice none 0 0
  | .sl c l, v => ∃ A cap, v = .slice A l.length cap ∧ l.length ≤ cap ∧ (l ≠ [] → ∃ g o, A = some ⟨g, o, none⟩ ∧ ok g ∧ Holds w g o (flatV c l))
  | .own i ver, v => ∃ A, st.ar[i]? = some (some A) ∧ ver ≤ A.ver ∧ (A.ver = ver → match E.ar i with
      | none => v = .slice none 0 0
      | some (g, o, cap, _) => v = .slice (some ⟨g, o, none⟩) A.l.length cap)
  | .view i ver off len, v => ∃ A, st.ar[i]? = some (some A) ∧ ver ≤ A.ver ∧ (A.ver = ver → off + len ≤ A.l.length ∧ ∃ a cap, v = .slice a len cap ∧ len ≤ cap ∧
      (0 < len → ∃ g o cp e, E.ar i = some (g, o, cp, e) ∧ a = some ⟨g, o + off * A.c.sz, none⟩ ∧ off + cap ≤ cp))
  | .box b off, v => (∃ cs, st.bx[b]? = some (some cs)) ∧ v = .pointer (some ⟨E.bx b, off, none⟩)
  | .arr i ver j off, v => ∃ A, st.ar[i]? = some (some A) ∧ ver ≤ A.ver ∧ (A.ver = ver → j < A.l.length ∧ ∃ g o cp e, E.ar i = some (g, o, cp, e) ∧ v = .pointer (some ⟨g, o + j * A.c.sz + off, none⟩))
  | .elt c x off, v => ∃ g o, v = .pointer (some ⟨g, o, none⟩) ∧ ok g ∧ Holds w g o ((c.encV x).drop off)
  | .fn f, v => v = .func (.func f) #[] #[]
  | .objc _, _ => False
  | .nilp, v => v = .pointer none
  | .nili, v => v = .nilIface
def RelCs (w : World) (E : Env) (ok : Nat → Prop) (st : St) (ps : List PC) (vs : List Value) : Prop :=
  ps.length = vs.length ∧ ∀ (j : Nat) (p : PC) (v : Value), ps[j]? = some p → vs[j]? = some v → RelC w E ok st p v
def RelA (w : World) (E : Env) (ok : Nat → Prop) (st : St) : PA → Value → Prop
  | .c p, v => RelC w E ok st p v
  | .agg ps, v => ∃ vs : List Value, v = .agg vs.toArray ∧ RelCs w E ok st ps vs
def RelV (w : World) (E : Env) (ok : Nat → Prop) (st : St) : PV → Value → Prop
  | .a x, v => RelA w E ok st x v
  | .tup xs, v => ∃ vs : List Value, v = .tuple vs.toArray ∧ xs.length = vs.length ∧ ∀ (j : Nat) (x : PA) (v : Value), xs[j]? = some x → vs[j]? = some v → RelA w E ok st x v
/-- What a step leaves of what was known. -/
structure Ext (w : World) (E : Env) (ok : Nat → Prop) (st : St) (w' : World) (E' : Env) (ok' : Nat → Prop) (st' : St) : Prop where
  heap : ∀ b, ok b → w'.heap[b]? = w.heap[b]?
  ok : ∀ b, ok b → ok' b
  bx : ∀ b cs, st.bx[b]? = some (some cs) → (∃ cs', st'.bx[b]? = some (some cs')) ∧ E'.bx b = E.bx b
  ar : ∀ i A, st.ar[i]? = some (some A) → ∃ A', st'.ar[i]? = some (some A') ∧ A.ver ≤ A'.ver ∧ (A'.ver = A.ver → A'.c = A.c ∧ A'.l.length = A.l.length ∧ E'.ar i = E.ar i)
section
variable {w w' w'' : World} {E E' E'' : Env} {ok ok' ok'' : Nat → Prop} {st st' st'' : St}
theorem Ext.refl : Ext w E ok st w E ok st := ⟨fun _ _ => rfl, fun _ h => h, fun b cs h => ⟨⟨cs, h⟩, rfl⟩, fun i A h => ⟨A, h, Nat.le_refl _, fun _ => ⟨rfl, rfl, rfl⟩⟩⟩
theorem Ext.trans (h : Ext w E ok st w' E' ok' st') (k : Ext w' E' ok' st' w'' E'' ok'' st'') : Ext w E ok st w'' E'' ok'' st'' := by
  refine ⟨fun b hb => (k.heap b (h.ok b hb)).trans (h.heap b hb), fun b hb => k.ok b (h.ok b hb), fun b cs hb => ?_, fun i A hA => ?_⟩
  · obtain ⟨⟨cs', h1⟩, h2⟩ := h.bx b cs hb
    obtain ⟨h3, h4⟩ := k.bx b cs' h1
    exact ⟨h3, h4.trans h2⟩
  · obtain ⟨A', h1, h2, h3⟩ := h.ar i A hA
    obtain ⟨A'', h4, h5, h6⟩ := k.ar i A' h1
    refine ⟨A'', h4, Nat.le_trans h2 h5, fun e => ?_⟩
    have e1 : A'.ver = A.ver := by omega
    have e2 : A''.ver = A'.ver := by omega
    obtain ⟨a1, a2, a3⟩ := h3 e1
    obtain ⟨b1, b2, b3⟩ := h6 e2
    exact ⟨b1.trans a1, b2.trans a2, b3.trans a3⟩
theorem Holds.ext {g o : Nat} {vs : List Value} (h : Holds w g o vs) (he : w'.heap[g]? = w.heap[g]?) : Holds w' g o vs := by
  obtain ⟨cur, e, fr, h1, h2⟩ := h
  exact ⟨cur, e, fr, he.trans h1, h2⟩
theorem RelC.ext (h : Ext w E ok st w' E' ok' st') {p : PC} {v : Value} (hr : RelC w E ok st p v) : RelC w' E' ok' st' p v := by
  cases p with
  | unk => trivial
  | int k n => exact hr
  | bool b => exact hr
  | str s => exact hr
  | nil => exact hr
  | fn f => exact hr
  | objc o => exact hr
  | nilp => exact hr
  | nili => exact hr
  | sl c l =>
    obtain ⟨A, cap, h1, h2, h3⟩ := hr
    refine ⟨A, cap, h1, h2, fun hl => ?_⟩
    obtain ⟨g, o, h4, h5, h6⟩ := h3 hl
    exact ⟨g, o, h4, h.ok _ h5, h6.ext (h.heap _ h5)⟩
  | own i ver =>
    obtain ⟨A, h1, h2, h3⟩ := hr
    obtain ⟨A', h4, h5, h6⟩ := h.ar i A h1
    refine ⟨A', h4, Nat.le_trans h2 h5, fun e => ?_⟩
    obtain ⟨e1, e2, e3⟩ := h6 (by omega)
    have := h3 (by omega)
    rw [e3, e2]
    exact this
  | view i ver off len =>
    obtain ⟨A, h1, h2, h3⟩ := hr
    obtain ⟨A', h4, h5, h6⟩ := h.ar i A h1
    refine ⟨A', h4, Nat.le_trans h2 h5, fun e => ?_⟩
    obtain ⟨e1, e2, e3⟩ := h6 (by omega)
    have := h3 (by omega)
    rw [e3, e2, e1]
    exact this
  | box b off =>
    obtain ⟨⟨cs, h1⟩, h2⟩ := hr
    obtain ⟨h3, h4⟩ := h.bx b cs h1
    exact ⟨h3, by rw [h4]; exact h2⟩
  | arr i ver j off =>
    obtain ⟨A, h1, h2, h3⟩ := hr
    obtain ⟨A', h4, h5, h6⟩ := h.ar i A h1
    refine ⟨A', h4, Nat.le_trans h2 h5, fun e => ?_⟩
    obtain ⟨e1, e2, e3⟩ := h6 (by omega)
    have := h3 (by omega)
    refine ⟨by rw [e2]; exact this.1, ?_⟩
    rw [e3, e1]
    exact this.2
  | elt c x off =>
    obtain ⟨g, o, h1, h2, h3⟩ := hr
    exact ⟨g, o, h1, h.ok _ h2, h3.ext (h.heap _ h2)⟩
theorem RelCs.ext (h : Ext w E ok st w' E' ok' st') {ps : List PC} {vs : List Value} (hr : RelCs w E ok st ps vs) : RelCs w' E' ok' st' ps vs :=
  ⟨hr.1, fun j p v hp hv => (hr.2 j p v hp hv).ext h⟩
theorem RelA.ext (h : Ext w E ok st w' E' ok' st') {p : PA} {v : Value} (hr : RelA w E ok st p v) : RelA w' E' ok' st' p v := by
  cases p with
  | c p => exact RelC.ext h hr
  | agg ps =>
    obtain ⟨vs, h1, h2⟩ := hr
    exact ⟨vs, h1, h2.ext h⟩
theorem RelV.ext (h : Ext w E ok st w' E' ok' st') {p : PV} {v : Value} (hr : RelV w E ok st p v) : RelV w' E' ok' st' p v := by
  cases p with
  | a p => exact RelA.ext h hr
  | tup xs =>
    obtain ⟨vs, h1, h2, h3⟩ := hr
    exact ⟨vs, h1, h2, fun j x v hx hv => (h3 j x v hx hv).ext h⟩
end
/-- A known cell is a cell. -/
theorem RelC.one {w : World} {E : Env} {ok : Nat → Prop} {st : St} {p : PC} {v : Value} (h : RelC w E ok st p v) (hk : known p = true) (hn : ∀ i ver, p ≠ .own i ver) (hn2 : ∀ i ver off len, p ≠ .view i ver off len) (hn3 : ∀ i ver j off, p ≠ .arr i ver j off) : v.oneCell' = true := by
  cases p with
  | unk => simp [known] at hk
  | own i ver => exact absurd rfl (hn i ver)
  | view i ver off len => exact absurd rfl (hn2 i ver off len)
  | arr i ver j off => exact absurd rfl (hn3 i ver j off)
  | sl c l => obtain ⟨A, cap, rfl, _⟩ := h; rfl
  | box b off => obtain ⟨_, rfl⟩ := h; rfl
  | elt c x off => obtain ⟨g, o, rfl, _⟩ := h; rfl
  | objc o => exact False.elim h
  | _ => cases h; rfl

/-! ## The state -/
/-- A row lies where it is said to lie. -/
def ArOk (w : World) (A : AR) : Place → Prop
  | none => A.l = []
  | some (g, o, cap, e) => A.l.length ≤ cap ∧ cap ≤ maxLen ∧ ∃ cur, w.heap[g]? = some (.cells cur e (0, 0)) ∧ o + cap * A.c.sz ≤ cur.size ∧ (A.lt = false → o = 0 ∧ cur.size = cap * A.c.sz) ∧
      ∀ j u, (flatV A.c A.l)[j]? = some u → cur[o + j]? = some u
/-- The call began in w0; P0: what was handed over may lead there; L: the rows that it was lent, as they were: block, first cell, number of cells. -/
structure Ctx where
  w0 : World
  P0 : Nat → Prop
  L : List (Nat × Nat × Nat)
  Ls : List (SL × Place)
/-- A Builder, its struct's block m, its bytes' block fs. -/
def BldAt (T e : TypeId) (l : List UInt8) (w : World) (m : Nat) (fs : List Nat) : Prop :=
  T ≠ e ∧ ∃ p v, (p = .pointer none ∨ p = .pointer (some ⟨m, 0, none⟩)) ∧ w.heap[m]? = some (.cells #[p, v] T (0, 0)) ∧ m ∉ fs ∧ w.ownsRowF 0 e 1 v l.length (Lib.byteCells l) ∧ fs = v.ownBlock.toList
/-- An object lies in the block m, and in fs. -/
def ObAt (w : World) (ok : Nat → Prop) (m : Nat) (fs : List Nat) : Ob → Prop
  | .iter s pos => fs = [] ∧ w.heap[m]? = some (.stringIter s pos)
  | .bld T e s => BldAt T e s.data.toList w m fs
def BoxAt (w : World) (E : Env) (ok : Nat → Prop) (st : St) (cs : List PC) (m : Nat) (fs : List Nat) : Prop :=
  match obOf cs with
  | some o => ObAt w ok m fs o
  | none => fs = [] ∧ ∃ (vs : List Value) (ty : TypeId), w.heap[m]? = some (.cells vs.toArray ty (0, 0)) ∧ RelCs w E ok st cs vs
/-- Where a box lies. -/
def Env.foot (E : Env) (b k : Nat) : Prop := k = E.bx b ∨ k ∈ E.fp b
theorem ObAt.ext {w w' : World} {ok ok' : Nat → Prop} {m : Nat} {fs : List Nat} {o : Ob} (h : ObAt w ok m fs o) (he : ∀ k, k = m ∨ k ∈ fs → w'.heap[k]? = w.heap[k]?) (hk : ∀ b, ok b → ok' b ∧ w'.heap[b]? = w.heap[b]?) : ObAt w' ok' m fs o := by
  cases o with
  | iter s pos => exact ⟨h.1, (he m (.inl rfl)).trans h.2⟩
  | bld T e s =>
    obtain ⟨hT, p, v, h1, h2, h3, h4, h5⟩ := h
    refine ⟨hT, p, v, h1, (he m (.inl rfl)).trans h2, h3, ⟨h4.1, ?_⟩, h5⟩
    rcases h4.2 with hn | ⟨g, cap, cur, fz, rfl, hb, hg, rest⟩
    · exact .inl hn
    · exact .inr ⟨g, cap, cur, fz, rfl, hb, (he g (.inr (by rw [h5]; simp [Value.ownBlock]))).trans hg, rest⟩
theorem BoxAt.ext {w w' : World} {E E' : Env} {ok ok' : Nat → Prop} {st st' : St} {cs : List PC} {m : Nat} {fs : List Nat} (h : BoxAt w E ok st cs m fs) (he : ∀ k, k = m ∨ k ∈ fs → w'.heap[k]? = w.heap[k]?) (hx : Ext w E ok st w' E' ok' st') : BoxAt w' E' ok' st' cs m fs := by
  unfold BoxAt at h ⊢
  split at h
  · exact h.ext he (fun b hb => ⟨hx.ok b hb, hx.heap b hb⟩)
  · obtain ⟨h0, vs, ty, h1, h2⟩ := h
    exact ⟨h0, vs, ty, (he m (.inl rfl)).trans h1, h2.ext hx⟩
theorem BoxAt.plain {w : World} {E : Env} {ok : Nat → Prop} {st : St} {cs : List PC} {m : Nat} {fs : List Nat} (h : BoxAt w E ok st cs m fs) (ho : obOf cs = none) : fs = [] ∧ ∃ (vs : List Value) (ty : TypeId), w.heap[m]? = some (.cells vs.toArray ty (0, 0)) ∧ RelCs w E ok st cs vs := by
  unfold BoxAt at h
  rw [ho] at h
  exact h
theorem BoxAt.of {w : World} {E : Env} {ok : Nat → Prop} {st : St} {cs : List PC} {m : Nat} {vs : List Value} {ty : TypeId} (h1 : w.heap[m]? = some (.cells vs.toArray ty (0, 0))) (h2 : RelCs w E ok st cs vs) : BoxAt w E ok st cs m [] := by
  unfold BoxAt
  split
  · rename_i o ho
    exfalso
    unfold obOf at ho
    split at ho
    · obtain ⟨hl, hr⟩ := h2
      match vs, hl, hr with
      | [v], _, hr => exact hr 0 _ v rfl rfl
    · cases ho
  · exact ⟨rfl, vs, ty, h1, h2⟩
def Ctx.lent (X : Ctx) (b : Nat) : Prop := ∃ o n, (b, o, n) ∈ X.L
structure Inv (X : Ctx) (E : Env) (ok : Nat → Prop) (st : St) (a : Act) (w : World) : Prop where
  defers : a.defers = []
  len : st.tm.length = a.tmps.size
  tm : ∀ (t : Nat) (p : PV) (v : Value), st.tm[t]? = some p → a.tmps[t]? = some v → RelV w E ok st p v
  bx : ∀ b cs, st.bx[b]? = some (some cs) → BoxAt w E ok st cs (E.bx b) (E.fp b)
  ar : ∀ i A, st.ar[i]? = some (some A) → ArOk w A (E.ar i)
  arlen : st.ar.length = 2 * st.bx.length
  bxne : ∀ b b' cs cs' k, st.bx[b]? = some (some cs) → st.bx[b']? = some (some cs') → E.foot b k → E.foot b' k → b = b'
  bxok : ∀ b cs k, st.bx[b]? = some (some cs) → E.foot b k → ¬ ok k ∧ X.w0.heap.size ≤ k ∧ k < w.heap.size
  arne : ∀ i i' A A' g o c e g' o' c' e', st.ar[i]? = some (some A) → st.ar[i']? = some (some A') → E.ar i = some (g, o, c, e) → E.ar i' = some (g', o', c', e') → g = g' → i = i'
  arbx : ∀ i A b cs g o c e, st.ar[i]? = some (some A) → st.bx[b]? = some (some cs) → E.ar i = some (g, o, c, e) → ¬ E.foot b g
  arok : ∀ i A g o c e, st.ar[i]? = some (some A) → E.ar i = some (g, o, c, e) → (ok g ↔ A.fz = true)
  arnew : ∀ i A g o c e, st.ar[i]? = some (some A) → E.ar i = some (g, o, c, e) → if A.lt then (g, o, A.l.length * A.c.sz) ∈ X.L else X.w0.heap.size ≤ g
  okold : ∀ b, ok b → X.P0 b ∨ X.w0.heap.size ≤ b
  oklt : ∀ b, ok b → b < w.heap.size
  size : X.w0.heap.size ≤ w.heap.size
  frame : ∀ b, b < X.w0.heap.size → ¬ X.lent b → w.heap[b]? = X.w0.heap[b]?
  lent : ∀ g o n, (g, o, n) ∈ X.L → g < X.w0.heap.size ∧ ∃ cur0 cur e, X.w0.heap[g]? = some (.cells cur0 e (0, 0)) ∧ w.heap[g]? = some (.cells cur e (0, 0)) ∧ cur.size = cur0.size ∧ ∀ j, (j < o ∨ o + n ≤ j) → cur[j]? = cur0[j]?
  lentu : ∀ g o n o' n', (g, o, n) ∈ X.L → (g, o', n') ∈ X.L → o = o' ∧ n = n'
  lentat : ∀ (j : Nat) (s : SL) (p : Place), X.Ls[j]? = some (s, p) → ∃ A, st.ar[j]? = some (some A) ∧ A.lt = true ∧ A.c = s.c ∧ A.l.length = s.l.length ∧ E.ar j = p
  os : w.os = X.w0.os
  tape : w.tape = X.w0.tape
  output : w.output = X.w0.output
end Go.Eng
end
section
set_option linter.unusedVariables false
set_option linter.unusedSimpArgs false
namespace Go.Eng
variable {P : Program} {X : Ctx} {E : Env} {ok : Nat → Prop} {st : St} {a : Act} {w : World}

theorem relC_const (v : Value) : RelC w E ok st (constC v) v := by
  unfold constC
  split <;> first | rfl | trivial
theorem relV_const (v : Value) : RelV w E ok st (constV v) v := by
  unfold constV
  split
  · rename_i cs
    refine ⟨cs.toList, by simp, by simp, fun j p v hp hv => ?_⟩
    simp only [List.getElem?_map, hv, Option.map_some, Option.some.injEq] at hp
    subst hp
    exact relC_const v
  · exact relC_const _
theorem Inv.get (h : Inv X E ok st a w) (t : Nat) : RelV w E ok st (st.get t) (a.tmps.getD t undef) := by
  unfold St.get
  rw [List.getD_eq_getElem?_getD, Array.getD_eq_getD_getElem?]
  cases h1 : st.tm[t]? with
  | none => exact trivial
  | some p =>
    have hlt : t < a.tmps.size := by
      rw [← h.len]
      exact (List.getElem?_eq_some_iff.1 h1).1
    cases h2 : a.tmps[t]? with
    | none => simp at h2; omega
    | some v => exact h.tm t p v h1 h2
theorem Inv.op (h : Inv X E ok st a w) (x : Operand) : RelV w E ok st (st.op x) (a.eval x) := by
  cases x with
  | tmp t => exact h.get t
  | const v => exact relV_const v
  | func f => exact rfl
  | global g => exact trivial
/-- The same memory, other variables. -/
theorem Inv.tms {tm : List PV} {a' : Act} (h : Inv X E ok st a w) (hd : a'.defers = []) (hl : tm.length = a'.tmps.size)
    (ht : ∀ (t : Nat) (p : PV) (v : Value), tm[t]? = some p → a'.tmps[t]? = some v → RelV w E ok st p v) : Inv X E ok { st with tm := tm } a' w := by
  have hx : Ext w E ok st w E ok { st with tm := tm } := ⟨fun _ _ => rfl, fun _ h => h, fun b cs h => ⟨⟨cs, h⟩, rfl⟩, fun i A h => ⟨A, h, Nat.le_refl _, fun _ => ⟨rfl, rfl, rfl⟩⟩⟩
  exact { h with
    defers := hd, len := hl
    tm := fun t p v hp hv => (ht t p v hp hv).ext hx
    bx := fun b cs hb => (h.bx b cs hb).ext (fun _ _ => rfl) hx }
theorem Inv.put (h : Inv X E ok st a w) {v : PV} {v' : Value} (hv : RelV w E ok st v v') (d : Option Tmp) : Inv X E ok (st.put d v) (a.put d v') w := by
  cases d with
  | none => exact h
  | some d =>
    refine h.tms (by simp [Act.put, h.defers]) (by simp [Act.put, h.len]) fun t p u hp hu => ?_
    rw [List.getElem?_set] at hp
    simp only [Act.put, Array.getElem?_setIfInBounds] at hu
    by_cases e : d = t
    · subst e
      simp only [if_true] at hp hu
      split at hp
      · split at hu
        · injection hp with hp; injection hu with hu
          subst hp; subst hu
          exact hv
        · cases hu
      · cases hp
    · rw [if_neg e] at hp hu
      exact h.tm t p u hp hu
/-- What a test has told. -/
theorem Inv.know (h : Inv X E ok st a w) {c : Operand} {b : Bool} (hb : a.eval c = .bool b) : Inv X E ok (st.know c b) a w := by
  cases c with
  | tmp t =>
    have := h.put (v := .one (.bool b)) (v' := .bool b) rfl (some t)
    have e : a.put (some t) (.bool b) = a := by
      simp only [Act.put]
      have e1 : a.tmps.setIfInBounds t (.bool b) = a.tmps := by
        apply Array.ext_getElem?
        intro i
        rw [Array.getElem?_setIfInBounds]
        by_cases e : t = i
        · subst e
          simp only [Act.eval, Array.getD_eq_getD_getElem?] at hb
          rw [if_pos rfl]
          split
          · rename_i hlt
            rw [Array.getElem?_eq_getElem hlt] at hb ⊢
            simpa using hb.symm
          · rename_i hlt
            rw [Array.getElem?_eq_none (by omega)]
        · rw [if_neg e]
      rw [e1]
    rw [e] at this
    exact this
  | _ => exact h

/-- What an operation comes to. -/
def OpTo (X : Ctx) (st1 : St) (v : PV) (a : Act) (v' : Value) (w' : World) : Prop := ∃ E' ok', Inv X E' ok' st1 a w' ∧ RelV w' E' ok' st1 v v'
/-- The operation goes, whatever follows. -/
def Goes (P : Program) (X : Ctx) (o : Oper) (st : St) (a : Act) (w : World) (st1 : St) (v : PV) : Prop :=
  ∀ (next : Act → World → Prop) (Q : Exit → Act → World → Prop), (∀ v' w', OpTo X st1 v a v' w' → next (a.put o.dst v') w') → o.wp P a w next Q
theorem goes_run {o : Oper} {st1 : St} {v : PV} {v' : Value} {w' : World} (h : (execOp a.eval o).run P w = .ok (.value v') w') (ht : OpTo X st1 v a v' w') : Goes P X o st a w st1 v := by
  intro next Q hn
  unfold Oper.wp
  rw [h]
  exact hn v' w' ht
theorem goes_skip {o : Oper} {st1 : St} {w' : World} (h : (execOp a.eval o).run P w = .ok .skip w') (ht : OpTo X st1 (.tup []) a undef w') : Goes P X o st a w st1 (.tup []) := by
  intro next Q hn
  unfold Oper.wp
  rw [h]
  exact hn undef w' ht
/-- An operation that only computes. -/
theorem goes_pure {o : Oper} {v : PV} {v' : Value} (hI : Inv X E ok st a w) (h : (execOp a.eval o).run P w = .ok (.value v') w) (hv : RelV w E ok st v v') : Goes P X o st a w st v :=
  goes_run h ⟨E, ok, hI, hv⟩
end Go.Eng
end
section
set_option linter.unusedVariables false
set_option linter.unusedSimpArgs false
namespace Go.Eng
variable {R : Type} {P : Program} {X : Ctx} {E : Env} {ok : Nat → Prop} {st : St} {a : Act} {w : World} {r : R}

/-- What two cells come to. -/
def Two (P : Program) (w : World) (E : Env) (ok : Nat → Prop) (st : St) (op : BinOp) (T : TypeId) (x y : Operand) (u v : Value) (z : PC) : Prop :=
  ∃ z', (do eqGuard op T x y u v; binOp op T u v : Sem Value).run P w = .ok z' w ∧ RelC w E ok st z z'
theorem guard_int {op : BinOp} {T : TypeId} {x y : Operand} {k k' : IntKind} {m n : Int} : (eqGuard op T x y (.int k m) (.int k' n)).run P w = .ok () w := by
  cases op <;> simp [eqGuard]
theorem guard_str {op : BinOp} {T : TypeId} {x y : Operand} {m n : ByteArray} : (eqGuard op T x y (.string m) (.string n)).run P w = .ok () w := by
  cases op <;> simp [eqGuard]
theorem guard_bool {op : BinOp} {T : TypeId} {x y : Operand} {m n : Bool} : (eqGuard op T x y (.bool m) (.bool n)).run P w = .ok () w := by
  cases op <;> simp [eqGuard]
theorem isBool_of {T : TypeId} (h : isBool P T = true) : P.underlying T = some .bool := by
  unfold isBool at h
  split at h
  · assumption
  · cases h
theorem equal_bool {T : TypeId} (h : isBool P T = true) (a b : Bool) : (Op.equal T (.bool a) (.bool b)).run P w = .ok (a == b) w :=
  run_equalIn_bool w 9999 T a b (isBool_of h)
theorem binK_sound {op : BinOp} {T : TypeId} {x y : Operand} {p q : PC} {u v : Value} {K : PC → Option R} (h : binK (isBool P T) op p q K = some r) (hu : RelC w E ok st p u) (hv : RelC w E ok st q v) :
    ∃ z, K z = some r ∧ Two P w E ok st op T x y u v z := by
  unfold binK at h
  split at h
  all_goals first | (cases hu; cases hv) | skip
  all_goals first | (simp at h; done) | skip
  all_goals (try (split at h; · simp at h))
  all_goals (first | (split at h; rotate_left; · simp at h) | skip)
  all_goals (try subst_vars)
  all_goals (try (split at h; · simp at h))
  all_goals refine ⟨_, h, _, ?_, rfl⟩
  all_goals (rw [Sem.run_bind]; first | rw [guard_int] | rw [guard_str] | rw [guard_bool])
  all_goals (simp only [Result.andThen_ok])
  all_goals first
    | (simp [binOp, Op.intArith, Op.intCmp, Op.intBits, Op.shift, Op.intDiv, shlI, shrI, andI, orI, xorI, andNotI, *]; done)
    | skip
  · rename_i m n h
    have e : ¬ ((m.size + n.size : Nat) : Int) > IntKind.i64.max := by
      have : IntKind.i64.max = 9223372036854775807 := by decide
      rw [this]; omega
    simp only [binOp, Op.stringOp, if_neg e, Sem.run_ite, Sem.run_pure]
  · rfl
  · rfl
  · rfl
  · rfl
  · rename_i hb
    simp [binOp, equal_bool hb]
  · rename_i hb
    simp [binOp, equal_bool hb]
theorem unK_sound {op : UnOp} {p : PC} {u : Value} {K : PC → Option R} (h : unK op p K = some r) (hu : RelC w E ok st p u) :
    ∃ z, K z = some r ∧ ∃ z', (Op.unary op u).run P w = .ok z' w ∧ RelC w E ok st z z' := by
  unfold unK at h
  split at h
  · cases hu; exact ⟨_, h, _, rfl, rfl⟩
  · cases hu; exact ⟨_, h, _, rfl, rfl⟩
  · cases hu; exact ⟨_, h, _, rfl, rfl⟩
  · cases h
/-! ### Operations that only compute -/
/-- The operation's soundness, at one state. -/
def OpSound (P : Program) (X : Ctx) (E : Env) (ok : Nat → Prop) (o : Oper) (st : St) (a : Act) (w : World) (K : PV → St → Option R) (r : R) : Prop :=
  ∃ v st1, K v st1 = some r ∧ Goes P X o st a w st1 v
theorem run_value {o : Oper} {s : Sem Value} {v : Value} {w' : World} (h : execOp a.eval o = (do pure (.value (← s)))) (hs : s.run P w = .ok v w') : (execOp a.eval o).run P w = .ok (.value v) w' := by
  rw [h]; simp [hs]
variable {o : Oper} {K : PV → St → Option R}
theorem s_move {x : Operand} (hI : Inv X E ok st a w) (ho : o.op = .move x) (h : K (st.op x) st = some r) : OpSound P X E ok o st a w K r :=
  ⟨_, _, h, goes_pure hI (v' := a.eval x) (by simp [execOp, ho]) (hI.op x)⟩
theorem s_assign {x : Operand} (hI : Inv X E ok st a w) (ho : o.op = .assign x) (h : K (st.op x) st = some r) : OpSound P X E ok o st a w K r :=
  ⟨_, _, h, goes_pure hI (v' := a.eval x) (by simp [execOp, ho]) (hI.op x)⟩
theorem relC_bool {b : Bool} {c : Operand} {p : PV} (hI : Inv X E ok st a w) (h : st.op c = .a (.c (.bool b))) : a.eval c = .bool b := by
  have := hI.op c
  rw [h] at this
  exact this
theorem ext_tm (tm : List PV) : Ext w E ok st w E ok { st with tm := tm } := ⟨fun _ _ => rfl, fun _ h => h, fun b cs h => ⟨⟨cs, h⟩, rfl⟩, fun i A h => ⟨A, h, Nat.le_refl _, fun _ => ⟨rfl, rfl, rfl⟩⟩⟩
theorem ext_put (d : Option Tmp) (v : PV) : Ext w E ok st w E ok (st.put d v) := by
  cases d with
  | none => exact Ext.refl
  | some d => exact ext_tm _
theorem ext_know (c : Operand) (b : Bool) : Ext w E ok st w E ok (st.know c b) := by
  cases c with
  | tmp t => exact ext_put (some t) _
  | _ => exact Ext.refl
theorem s_pick {c x y : Operand} (hI : Inv X E ok st a w) (ho : o.op = .pick c x y)
    (h : (match st.op c with
      | .a (.c (.bool t)) => if t = true then K (st.op x) (st.know c true) else K (st.op y) (st.know c false)
      | _ => none) = some r) : OpSound P X E ok o st a w K r := by
  split at h
  · rename_i t hc
    have hb := relC_bool (p := .tup []) hI hc
    split at h
    · rename_i ht
      subst ht
      exact ⟨_, _, h, goes_run (v' := a.eval x) (w' := w) (by simp [execOp, ho, hb, asBool]) ⟨E, ok, hI.know hb, (hI.op x).ext (ext_know c true)⟩⟩
    · rename_i ht
      have ht : t = false := by simpa using ht
      subst ht
      exact ⟨_, _, h, goes_run (v' := a.eval y) (w' := w) (by simp [execOp, ho, hb, asBool]) ⟨E, ok, hI.know hb, (hI.op y).ext (ext_know c false)⟩⟩
  · cases h
theorem relC_of {p : PC} {x : Operand} (hI : Inv X E ok st a w) (h : st.op x = .a (.c p)) : RelC w E ok st p (a.eval x) := by
  have := hI.op x
  rw [h] at this
  exact this
theorem s_binOp {op : BinOp} {t t' : TypeId} {x y : Operand} (hI : Inv X E ok st a w) (ho : o.op = .binOp op t x y t')
    (h : (match st.op x, st.op y with
    | .a (.c p), .a (.c q) => binK (isBool P t) op p q fun r => K (.one r) st
    | _, _ => none) = some r) : OpSound P X E ok o st a w K r := by
  split at h
  · rename_i p q hp hq
    obtain ⟨z, hz, z', h1, h2⟩ := binK_sound (x := x) (y := y) h (relC_of hI hp) (relC_of hI hq)
    exact ⟨_, _, hz, goes_pure hI (run_value (s := (do eqGuard op t x y (a.eval x) (a.eval y); binOp op t (a.eval x) (a.eval y))) (by simp only [execOp, ho]) h1) h2⟩
  · cases h
theorem s_unOp {op : UnOp} {t : TypeId} {x : Operand} (hI : Inv X E ok st a w) (ho : o.op = .unOp op t x)
    (h : (match st.op x with
    | .a (.c p) => unK op p fun r => K (.one r) st
    | _ => none) = some r) : OpSound P X E ok o st a w K r := by
  split at h
  · rename_i p hp
    obtain ⟨z, hz, z', h1, h2⟩ := unK_sound h (relC_of hI hp)
    exact ⟨_, _, hz, goes_pure hI (run_value (by simp only [execOp, ho]) h1) h2⟩
  · cases h
theorem run_und {t : TypeId} {d : TypeDesc} (h : P.underlying t = some d) : (underlying t).run P w = .ok d w := run_underlying h w
theorem s_extract {x : Operand} {i : Nat} (hI : Inv X E ok st a w) (ho : o.op = .extract x i)
    (h : (match st.op x with
    | .tup xs =>
      match xs[i]? with
      | some pa => K (.a pa) st
      | none => none
    | _ => none) = some r) : OpSound P X E ok o st a w K r := by
  split at h
  · rename_i xs hx
    split at h
    · rename_i pa hp
      have := hI.op x
      rw [hx] at this
      obtain ⟨vs, h1, h2, h3⟩ := this
      have hl : i < vs.length := by rw [← h2]; exact (List.getElem?_eq_some_iff.1 hp).1
      refine ⟨_, _, h, goes_pure hI (v' := vs[i]) (run_value (s := Instr.extract (a.eval x) i) (by simp only [execOp, ho]) ?_) (h3 i pa _ hp (List.getElem?_eq_getElem hl))⟩
      rw [h1]
      simp [Instr.extract, List.getElem?_eq_getElem hl]
    · cases h
  · cases h
end Go.Eng
end
section
set_option linter.unusedVariables false
set_option linter.unusedSimpArgs false
namespace Go.Eng
variable {P : Program} {X : Ctx} {E : Env} {ok : Nat → Prop} {st : St} {a : Act} {w : World}

theorem alloc_old {o : Obj} {b : Nat} (h : b < w.heap.size) : (w.alloc o).heap[b]? = w.heap[b]? := heap_alloc_old w o b h
theorem alloc_size (o : Obj) : (w.alloc o).heap.size = w.heap.size + 1 := Array.size_push ..
theorem ArOk.ext {w' : World} {A : AR} {p : Place} (h : ArOk w A p) (he : ∀ g o c e, p = some (g, o, c, e) → w'.heap[g]? = w.heap[g]?) : ArOk w' A p := by
  cases p with
  | none => exact h
  | some q =>
    obtain ⟨g, o, c, e⟩ := q
    obtain ⟨h1, h2, cur, h3, h4⟩ := h
    exact ⟨h1, h2, cur, (he g o c e rfl).trans h3, h4⟩
theorem ArOk.lt {A : AR} {g o c e : Nat} (h : ArOk w A (some (g, o, c, e))) : g < w.heap.size := by
  obtain ⟨_, _, cur, h3, _⟩ := h
  exact (Array.getElem?_eq_some_iff.1 h3).1
theorem Inv.bx_lt (hI : Inv X E ok st a w) {b : Nat} {cs : List PC} (h : st.bx[b]? = some (some cs)) : E.bx b < w.heap.size := (hI.bxok b cs _ h (.inl rfl)).2.2
theorem Inv.foot_lt (hI : Inv X E ok st a w) {b k : Nat} {cs : List PC} (h : st.bx[b]? = some (some cs)) (hk : E.foot b k) : k < w.heap.size := (hI.bxok b cs k h hk).2.2
theorem Inv.ar_lt (hI : Inv X E ok st a w) {i g o c e : Nat} {A : AR} (hA : st.ar[i]? = some (some A)) (he : E.ar i = some (g, o, c, e)) : g < w.heap.size := by
  have := hI.ar i A hA
  rw [he] at this
  exact this.lt
def Env.setBx (E : Env) (b m : Nat) (fs : List Nat) : Env := { E with bx := fun i => if i = b then m else E.bx i, fp := fun i => if i = b then fs else E.fp i }
theorem Env.foot_self {E : Env} {b m k : Nat} {fs : List Nat} : (E.setBx b m fs).foot b k ↔ k = m ∨ k ∈ fs := by simp [Env.foot, Env.setBx]
theorem Env.foot_ne {E : Env} {b b' m k : Nat} {fs : List Nat} (h : b ≠ b') : (E.setBx b m fs).foot b' k ↔ E.foot b' k := by simp [Env.foot, Env.setBx, Ne.symm h]
theorem set_some {α : Type} {l : List (Option α)} {i j : Nat} {x y : α} (h : (l.set i (some x))[j]? = some (some y)) (hi : i < l.length) : (i = j ∧ x = y) ∨ (i ≠ j ∧ l[j]? = some (some y)) := by
  rw [List.getElem?_set] at h
  by_cases e : i = j
  · left
    rw [if_pos e, if_pos hi] at h
    injection h with h
    injection h with h
    exact ⟨e, h⟩
  · right
    rw [if_neg e] at h
    exact ⟨e, h⟩
theorem get_lt {α : Type} {l : List α} {i : Nat} {x : α} (h : l[i]? = some x) : i < l.length := (List.getElem?_eq_some_iff.1 h).1

/-- A new block of memory: what was known stays known. -/
theorem Ext.alloc (hI : Inv X E ok st a w) (o : Obj) : Ext w E ok st (w.alloc o) E ok st :=
  ⟨fun b hb => alloc_old (hI.oklt b hb), fun _ h => h, fun b cs h => ⟨⟨cs, h⟩, rfl⟩, fun i A h => ⟨A, h, Nat.le_refl _, fun _ => ⟨rfl, rfl, rfl⟩⟩⟩
theorem Inv.alloc (hI : Inv X E ok st a w) (o : Obj) : Inv X E ok st a (w.alloc o) :=
  have hx := Ext.alloc hI o
  { hI with
    tm := fun t p v hp hv => (hI.tm t p v hp hv).ext hx
    bx := fun b cs hb => (hI.bx b cs hb).ext (fun k hk => alloc_old (hI.foot_lt hb hk)) hx
    bxok := fun b cs k hb hk => by have := hI.bxok b cs k hb hk; rw [alloc_size]; exact ⟨this.1, this.2.1, by omega⟩
    ar := fun i A hA => (hI.ar i A hA).ext (fun g o c e he => alloc_old (by have := hI.ar i A hA; rw [he] at this; exact this.lt))
    oklt := fun b hb => by have := hI.oklt b hb; rw [alloc_size]; omega
    size := by have := hI.size; rw [alloc_size]; omega
    frame := fun b hb hn => (alloc_old (Nat.lt_of_lt_of_le hb hI.size)).trans (hI.frame b hb hn)
    lent := fun g o n hg => by
      obtain ⟨h1, cur0, cur, e, h2, h3, h4⟩ := hI.lent g o n hg
      exact ⟨h1, cur0, cur, e, h2, (alloc_old (Nat.lt_of_lt_of_le h1 hI.size)).trans h3, h4⟩
    os := hI.os, tape := hI.tape, output := hI.output }
/-- A new box, in a block that has no name yet. -/
theorem Inv.addBx (hI : Inv X E ok st a w) {b : Nat} (hb : st.bx[b]? = some none) {cs : List PC} {m : Nat} {fs : List Nat} (hr : BoxAt w E ok st cs m fs)
    (hnew : ∀ k, k = m ∨ k ∈ fs → ¬ ok k ∧ X.w0.heap.size ≤ k ∧ k < w.heap.size ∧ (∀ i ds, st.bx[i]? = some (some ds) → ¬ E.foot i k) ∧ ∀ i A g r, st.ar[i]? = some (some A) → E.ar i = some (g, r) → g ≠ k) :
    Inv X (E.setBx b m fs) ok (st.setBx b cs) a w ∧ Ext w E ok st w (E.setBx b m fs) ok (st.setBx b cs) := by
  have hlt : b < st.bx.length := get_lt hb
  have hx : Ext w E ok st w (E.setBx b m fs) ok (st.setBx b cs) := by
    refine ⟨fun b hb => rfl, fun _ h => h, fun i ds h => ?_, fun i A h => ⟨A, h, Nat.le_refl _, fun _ => ⟨rfl, rfl, rfl⟩⟩⟩
    have hne : i ≠ b := by rintro rfl; rw [hb] at h; cases h
    refine ⟨⟨ds, ?_⟩, by simp [Env.setBx, hne]⟩
    simp only [St.setBx]
    rw [List.getElem?_set_ne (Ne.symm hne)]; exact h
  have key : ∀ i ds, (st.setBx b cs).bx[i]? = some (some ds) → (b = i ∧ cs = ds) ∨ (b ≠ i ∧ st.bx[i]? = some (some ds)) := fun i ds h => set_some h hlt
  refine ⟨{ hI with
    len := hI.len
    tm := fun t p v hp hv => (hI.tm t p v hp hv).ext hx
    bx := fun i ds hi => ?_
    ar := fun i A hA => hI.ar i A hA
    arlen := by simp [St.setBx, hI.arlen]
    bxne := fun i i' ds ds' k hi hi' hk hk' => ?_
    bxok := fun i ds k hi hk => ?_
    arbx := fun i A j ds g o c e hA hj he => ?_ }, hx⟩
  · rcases key i ds hi with ⟨rfl, rfl⟩ | ⟨hne, h⟩
    · have e1 : (E.setBx b m fs).bx b = m := by simp [Env.setBx]
      have e2 : (E.setBx b m fs).fp b = fs := by simp [Env.setBx]
      rw [e1, e2]
      exact hr.ext (fun _ _ => rfl) hx
    · have e1 : (E.setBx b m fs).bx i = E.bx i := by simp [Env.setBx, Ne.symm hne]
      have e2 : (E.setBx b m fs).fp i = E.fp i := by simp [Env.setBx, Ne.symm hne]
      rw [e1, e2]
      exact (hI.bx i ds h).ext (fun _ _ => rfl) hx
  · rcases key i ds hi with ⟨rfl, rfl⟩ | ⟨hne, h⟩ <;> rcases key i' ds' hi' with ⟨rfl, rfl⟩ | ⟨hne', h'⟩
    · rfl
    · exact absurd ((Env.foot_ne hne').1 hk') ((hnew k (Env.foot_self.1 hk)).2.2.2.1 i' ds' h')
    · exact absurd ((Env.foot_ne hne).1 hk) ((hnew k (Env.foot_self.1 hk')).2.2.2.1 i ds h)
    · exact hI.bxne i i' ds ds' k h h' ((Env.foot_ne hne).1 hk) ((Env.foot_ne hne').1 hk')
  · rcases key i ds hi with ⟨rfl, rfl⟩ | ⟨hne, h⟩
    · have := hnew k (Env.foot_self.1 hk)
      exact ⟨this.1, this.2.1, this.2.2.1⟩
    · exact hI.bxok i ds k h ((Env.foot_ne hne).1 hk)
  · rcases key j ds hj with ⟨rfl, rfl⟩ | ⟨hne, h⟩
    · exact fun hk => (hnew g (Env.foot_self.1 hk)).2.2.2.2 i A g _ hA he rfl
    · exact fun hk => hI.arbx i A j ds g o c e hA h he ((Env.foot_ne hne).1 hk)
/-- A block that was made just now. -/
theorem Inv.newest (hI : Inv X E ok st a w) (o : Obj) {k : Nat} (hk : k = w.heap.size) : ¬ ok k ∧ X.w0.heap.size ≤ k ∧ k < (w.alloc o).heap.size ∧ (∀ i ds, st.bx[i]? = some (some ds) → ¬ E.foot i k) ∧ ∀ i A g r, st.ar[i]? = some (some A) → E.ar i = some (g, r) → g ≠ k := by
  subst hk
  refine ⟨fun h => by have := hI.oklt _ h; omega, hI.size, by rw [alloc_size]; omega, fun i ds h hf => by have := hI.foot_lt h hf; omega, fun i A g r hA he => ?_⟩
  obtain ⟨o', c', e'⟩ := r
  have := hI.ar i A hA
  rw [he] at this
  have := this.lt
  omega
/-- A new box. -/
theorem Inv.newBx (hI : Inv X E ok st a w) {b : Nat} (hb : st.bx[b]? = some none) {cs : List PC} {vs : List Value} (hr : RelCs w E ok st cs vs) (ty : TypeId) :
    Inv X (E.setBx b w.heap.size []) ok (st.setBx b cs) a (w.alloc (.cells vs.toArray ty)) ∧
    RelV (w.alloc (.cells vs.toArray ty)) (E.setBx b w.heap.size []) ok (st.setBx b cs) (.one (.box b 0)) (.pointer (some ⟨w.heap.size, 0, none⟩)) := by
  have hlt : b < st.bx.length := get_lt hb
  obtain ⟨h1, _⟩ := (hI.alloc (.cells vs.toArray ty)).addBx hb (cs := cs) (m := w.heap.size) (fs := []) (BoxAt.of (heap_alloc_new w _) (hr.ext (Ext.alloc hI _)))
    (fun k hk => hI.newest _ (by simpa using hk))
  refine ⟨h1, ⟨cs, ?_⟩, by simp [Env.setBx]⟩
  simp only [St.setBx]
  rw [List.getElem?_set_self hlt]
/-- A new object. -/
theorem Inv.newOb (hI : Inv X E ok st a w) {b : Nat} (hb : st.bx[b]? = some none) {o : Ob} {obj : Obj} (hr : ObAt (w.alloc obj) ok w.heap.size [] o) :
    Inv X (E.setBx b w.heap.size []) ok (st.setBx b [.objc o]) a (w.alloc obj) ∧
    RelV (w.alloc obj) (E.setBx b w.heap.size []) ok (st.setBx b [.objc o]) (.one (.box b 0)) (.pointer (some ⟨w.heap.size, 0, none⟩)) := by
  have hlt : b < st.bx.length := get_lt hb
  obtain ⟨h1, _⟩ := (hI.alloc obj).addBx hb (cs := [.objc o]) (m := w.heap.size) (fs := []) hr (fun k hk => hI.newest _ (by simpa using hk))
  refine ⟨h1, ⟨[.objc o], ?_⟩, by simp [Env.setBx]⟩
  simp only [St.setBx]
  rw [List.getElem?_set_self hlt]

def Env.setAr (E : Env) (i : Nat) (p : Place) : Env := { E with ar := fun j => if j = i then p else E.ar j }
/-- A row that lies in memory of the call's own, and has no name yet. -/
def FreeRow (X : Ctx) (E : Env) (ok : Nat → Prop) (st : St) : Place → Prop
  | none => True
  | some (g, _) => ¬ ok g ∧ X.w0.heap.size ≤ g ∧ (∀ b cs, st.bx[b]? = some (some cs) → ¬ E.foot b g) ∧ (∀ j A g' r, st.ar[j]? = some (some A) → E.ar j = some (g', r) → g ≠ g')
theorem Inv.addAr (hI : Inv X E ok st a w) {i : Nat} (hi : st.ar[i]? = some none) {c : Cd} {l : List c.ty} {p : Place} (hA : ArOk w ⟨c, l, 0, false, false⟩ p) (hf : FreeRow X E ok st p) :
    Inv X (E.setAr i p) ok (st.setAr i ⟨c, l, 0, false, false⟩) a w ∧ Ext w E ok st w (E.setAr i p) ok (st.setAr i ⟨c, l, 0, false, false⟩) := by
  have hlt : i < st.ar.length := get_lt hi
  have hx : Ext w E ok st w (E.setAr i p) ok (st.setAr i ⟨c, l, 0, false, false⟩) := by
    refine ⟨fun b hb => rfl, fun _ h => h, fun b cs h => ⟨⟨cs, h⟩, rfl⟩, fun j A h => ?_⟩
    have hne : j ≠ i := by rintro rfl; rw [hi] at h; cases h
    refine ⟨A, ?_, Nat.le_refl _, fun _ => ⟨rfl, rfl, by simp [Env.setAr, hne]⟩⟩
    simp only [St.setAr]
    rw [List.getElem?_set_ne (Ne.symm hne)]; exact h
  have key : ∀ j A, (st.setAr i ⟨c, l, 0, false, false⟩).ar[j]? = some (some A) → (i = j ∧ (⟨c, l, 0, false, false⟩ : AR) = A) ∨ (i ≠ j ∧ st.ar[j]? = some (some A)) := fun j A h => set_some h hlt
  have e1 : ∀ j, i ≠ j → (E.setAr i p).ar j = E.ar j := fun j h => by simp [Env.setAr, Ne.symm h]
  have e2 : (E.setAr i p).ar i = p := by simp [Env.setAr]
  refine ⟨{ hI with
    len := hI.len
    tm := fun t q v hp hv => (hI.tm t q v hp hv).ext hx
    bx := fun b cs hb => (hI.bx b cs hb).ext (fun _ _ => rfl) hx
    ar := fun j A h => ?_
    arlen := by simp [St.setAr, hI.arlen]
    arne := fun j j' A A' g o cp e g' o' c' e' h h' hg hg' hgg => ?_
    arbx := fun j A b cs g o cp e h hb hg => ?_
    arok := fun j A g o cp e h hg => ?_
    arnew := fun j A g o cp e h hg => ?_
    lentat := fun j s q hj => by
      obtain ⟨A, k1, k2, k3, k4, k5⟩ := hI.lentat j s q hj
      have hne : i ≠ j := by rintro rfl; rw [hi] at k1; cases k1
      exact ⟨A, (List.getElem?_set_ne hne).trans k1, k2, k3, k4, (e1 j hne).trans k5⟩ }, hx⟩
  · rcases key j A h with ⟨rfl, rfl⟩ | ⟨hne, h⟩
    · rw [e2]; exact hA
    · rw [e1 j hne]; exact hI.ar j A h
  · rcases key j A h with ⟨rfl, rfl⟩ | ⟨hne, h⟩ <;> rcases key j' A' h' with ⟨rfl, rfl⟩ | ⟨hne', h'⟩
    · rfl
    · rw [e2] at hg; rw [e1 j' hne'] at hg'
      subst hg
      exact absurd hgg (hf.2.2.2 j' A' g' _ h' hg')
    · rw [e2] at hg'; rw [e1 j hne] at hg
      subst hg'
      exact absurd hgg.symm (hf.2.2.2 j A g _ h hg)
    · rw [e1 j hne] at hg; rw [e1 j' hne'] at hg'
      exact hI.arne j j' A A' g o cp e g' o' c' e' h h' hg hg' hgg
  · rcases key j A h with ⟨rfl, rfl⟩ | ⟨hne, h⟩
    · rw [e2] at hg; subst hg
      exact hf.2.2.1 b cs hb
    · rw [e1 j hne] at hg
      exact hI.arbx j A b cs g o cp e h hb hg
  · rcases key j A h with ⟨rfl, rfl⟩ | ⟨hne, h⟩
    · rw [e2] at hg; subst hg
      exact ⟨fun hk => absurd hk hf.1, fun hk => by simp at hk⟩
    · rw [e1 j hne] at hg
      exact hI.arok j A g o cp e h hg
  · rcases key j A h with ⟨rfl, rfl⟩ | ⟨hne, h⟩
    · rw [e2] at hg; subst hg
      exact hf.2.1
    · rw [e1 j hne] at hg
      exact hI.arnew j A g o cp e h hg
/-- A row that was made just now. -/
theorem FreeRow.new (hI : Inv X E ok st a w) (o c : Nat) (e : TypeId) : FreeRow X E ok st (some (w.heap.size, o, c, e)) := by
  refine ⟨fun hk => by have := hI.oklt _ hk; omega, hI.size, fun b cs hb hf => by have := hI.foot_lt hb hf; omega, fun j A g' r hA he => ?_⟩
  obtain ⟨o', c', e'⟩ := r
  have := hI.ar j A hA
  rw [he] at this
  have := this.lt
  omega
theorem relC_own {i : Nat} {c : Cd} {l : List c.ty} {p : Place} (hlt : i < st.ar.length) :
    RelC w (E.setAr i p) ok (st.setAr i ⟨c, l, 0, false, false⟩) (.own i 0) (match p with
      | none => .slice none 0 0
      | some (g, o, cap, _) => .slice (some ⟨g, o, none⟩) l.length cap) := by
  refine ⟨⟨c, l, 0, false, false⟩, by simp only [St.setAr]; rw [List.getElem?_set_self hlt], Nat.le_refl _, fun _ => ?_⟩
  have e2 : (E.setAr i p).ar i = p := by simp [Env.setAr]
  rw [e2]
  cases p <;> rfl
theorem newAr_some {i : Nat} {A : AR} {st1 : St} (h : st.newAr i A = some st1) : st.ar[i]? = some none ∧ st1 = st.setAr i A := by
  unfold St.newAr at h
  split at h
  · rename_i hn
    injection h with h
    exact ⟨hn, h.symm⟩
  · cases h
theorem newBx_some {i : Nat} {A : List PC} {st1 : St} (h : st.newBx i A = some st1) : st.bx[i]? = some none ∧ st1 = st.setBx i A := by
  unfold St.newBx at h
  split at h
  · rename_i hn
    injection h with h
    exact ⟨hn, h.symm⟩
  · cases h

/-- A box, or an object, turns into another one: nothing else in memory turns. -/
theorem Inv.turnBx (hI : Inv X E ok st a w) {b : Nat} {cs cs' : List PC} (hb : st.bx[b]? = some (some cs)) {w' : World} {fs' : List Nat} {ok' : Nat → Prop}
    (hsz : w.heap.size ≤ w'.heap.size) (hos : w'.os = w.os) (htape : w'.tape = w.tape) (hout : w'.output = w.output)
    (ho : ∀ k, k < w.heap.size → ¬ E.foot b k → w'.heap[k]? = w.heap[k]?)
    (hfs : ∀ k, k ∈ fs' → (E.foot b k ∨ w.heap.size ≤ k) ∧ k < w'.heap.size ∧ ¬ ok' k) (hm : ¬ ok' (E.bx b))
    (hok : ∀ k, ok k → ok' k) (hok' : ∀ k, ok' k → ok k ∨ (w.heap.size ≤ k ∧ k < w'.heap.size))
    (hr : Ext w E ok st w' (E.setBx b (E.bx b) fs') ok' (st.setBx b cs') → BoxAt w' (E.setBx b (E.bx b) fs') ok' (st.setBx b cs') cs' (E.bx b) fs') :
    Inv X (E.setBx b (E.bx b) fs') ok' (st.setBx b cs') a w' ∧ Ext w E ok st w' (E.setBx b (E.bx b) fs') ok' (st.setBx b cs') := by
  have hlt : b < st.bx.length := get_lt hb
  have e0 : ∀ i, (E.setBx b (E.bx b) fs').bx i = E.bx i := fun i => by
    simp only [Env.setBx]
    split
    · rename_i h; rw [h]
    · rfl
  have hx : Ext w E ok st w' (E.setBx b (E.bx b) fs') ok' (st.setBx b cs') := by
    refine ⟨fun k hk => ho k (hI.oklt k hk) (fun hf => (hI.bxok b cs k hb hf).1 hk), hok, fun i ds h => ⟨?_, e0 i⟩, fun i A h => ⟨A, h, Nat.le_refl _, fun _ => ⟨rfl, rfl, rfl⟩⟩⟩
    simp only [St.setBx]
    by_cases e : b = i
    · subst e; exact ⟨cs', List.getElem?_set_self hlt⟩
    · exact ⟨ds, by rw [List.getElem?_set_ne e]; exact h⟩
  have hr := hr hx
  have key : ∀ i ds, (st.setBx b cs').bx[i]? = some (some ds) → (b = i ∧ cs' = ds) ∨ (b ≠ i ∧ st.bx[i]? = some (some ds)) := fun i ds h => set_some h hlt
  have foot' : ∀ k, (E.setBx b (E.bx b) fs').foot b k → (E.foot b k ∨ w.heap.size ≤ k) ∧ k < w'.heap.size ∧ ¬ ok' k := fun k hk => by
    rcases Env.foot_self.1 hk with rfl | hk
    · exact ⟨.inl (.inl rfl), Nat.lt_of_lt_of_le (hI.bx_lt hb) hsz, hm⟩
    · exact hfs k hk
  refine ⟨{ hI with
    len := hI.len
    tm := fun t p v hp hv => (hI.tm t p v hp hv).ext hx
    bx := fun i ds hi => ?_
    ar := fun i A hA => (hI.ar i A hA).ext (fun g o c e he => ho g (hI.ar_lt hA he) (hI.arbx i A b cs g o c e hA hb he))
    arlen := by simp [St.setBx, hI.arlen]
    bxne := fun i i' ds ds' k hi hi' hk hk' => ?_
    bxok := fun i ds k hi hk => ?_
    arbx := fun i A j ds g o c e hA hj he hk => ?_
    arok := fun i A g o c e hA he => ⟨fun hk => ?_, fun hz => hok g ((hI.arok i A g o c e hA he).2 hz)⟩
    okold := fun k hk => ?_
    oklt := fun k hk => ?_
    size := Nat.le_trans hI.size hsz
    frame := fun k hk hn => (ho k (Nat.lt_of_lt_of_le hk hI.size) (fun hf => by have := (hI.bxok b cs k hb hf).2.1; omega)).trans (hI.frame k hk hn)
    lent := fun g o n hg => ?_
    os := hos.trans hI.os, tape := htape.trans hI.tape, output := hout.trans hI.output }, hx⟩
  · rcases key i ds hi with ⟨rfl, rfl⟩ | ⟨hne, h⟩
    · have e2 : (E.setBx b (E.bx b) fs').fp b = fs' := by simp [Env.setBx]
      rw [e0, e2]
      exact hr
    · have e2 : (E.setBx b (E.bx b) fs').fp i = E.fp i := by simp [Env.setBx, Ne.symm hne]
      rw [e0, e2]
      exact (hI.bx i ds h).ext (fun k hk => ho k (hI.foot_lt h hk) (fun hf => hne (hI.bxne b i cs ds k hb h hf hk))) hx
  · rcases key i ds hi with ⟨rfl, rfl⟩ | ⟨hne, h⟩ <;> rcases key i' ds' hi' with ⟨rfl, rfl⟩ | ⟨hne', h'⟩
    · rfl
    · have k2 := (Env.foot_ne hne').1 hk'
      rcases (foot' k hk).1 with k1 | k1
      · exact hI.bxne b i' cs ds' k hb h' k1 k2
      · have := hI.foot_lt h' k2; omega
    · have k2 := (Env.foot_ne hne).1 hk
      rcases (foot' k hk').1 with k1 | k1
      · exact hI.bxne i b ds cs k h hb k2 k1
      · have := hI.foot_lt h k2; omega
    · exact hI.bxne i i' ds ds' k h h' ((Env.foot_ne hne).1 hk) ((Env.foot_ne hne').1 hk')
  · rcases key i ds hi with ⟨rfl, rfl⟩ | ⟨hne, h⟩
    · obtain ⟨k1, k2, k3⟩ := foot' k hk
      refine ⟨k3, ?_, k2⟩
      rcases k1 with k1 | k1
      · exact (hI.bxok b cs k hb k1).2.1
      · exact Nat.le_trans hI.size k1
    · obtain ⟨k1, k2, k3⟩ := hI.bxok i ds k h ((Env.foot_ne hne).1 hk)
      refine ⟨fun hk => ?_, k2, by omega⟩
      rcases hok' k hk with hk | hk
      · exact k1 hk
      · omega
  · have hgl : g < w.heap.size := hI.ar_lt hA he
    rcases key j ds hj with ⟨rfl, rfl⟩ | ⟨hne, h⟩
    · rcases (foot' g hk).1 with k1 | k1
      · exact hI.arbx i A b cs g o c e hA hb he k1
      · omega
    · exact hI.arbx i A j ds g o c e hA h he ((Env.foot_ne hne).1 hk)
  · have hgl : g < w.heap.size := hI.ar_lt hA he
    rcases hok' g hk with hk | hk
    · exact (hI.arok i A g o c e hA he).1 hk
    · omega
  · rcases hok' k hk with hk | hk
    · exact hI.okold k hk
    · exact .inr (Nat.le_trans hI.size hk.1)
  · rcases hok' k hk with hk | hk
    · exact Nat.lt_of_lt_of_le (hI.oklt k hk) hsz
    · exact hk.2
  · obtain ⟨h1, cur0, cur, e, h2, h3, h4⟩ := hI.lent g o n hg
    exact ⟨h1, cur0, cur, e, h2, (ho g (Nat.lt_of_lt_of_le h1 hI.size) (fun hf => by have := (hI.bxok b cs g hb hf).2.1; omega)).trans h3, h4⟩
theorem Env.setBx_same {E : Env} {b : Nat} {fs : List Nat} (h : E.fp b = fs) : E.setBx b (E.bx b) fs = E := by
  cases E with
  | mk bx fp ar =>
    simp only [Env.setBx, Env.mk.injEq, and_true]
    constructor
    · funext i; split
      · rename_i h; rw [h]
      · rfl
    · funext i; split
      · rename_i h'; rw [h', ← h]
      · rfl
/-- A store into a box. -/
theorem Inv.setBx (hI : Inv X E ok st a w) {b : Nat} {cs cs' : List PC} (hb : st.bx[b]? = some (some cs)) (hn : obOf cs = none) {vs' : List Value} (hr : RelCs w E ok st cs' vs') :
    Inv X E ok (st.setBx b cs') a (w.setRow (E.bx b) vs'.toArray) := by
  obtain ⟨h0, vs, ty, hv, _⟩ := (hI.bx b cs hb).plain hn
  have := hI.turnBx (cs' := cs') hb (w' := w.setRow (E.bx b) vs'.toArray) (fs' := []) (ok' := ok) (by rw [setRow_size]; exact Nat.le_refl _) rfl rfl rfl
    (fun k _ hf => setRow_other w _ k _ (fun e => hf (.inl e))) (by simp) (hI.bxok b cs _ hb (.inl rfl)).1 (fun _ h => h) (fun _ h => .inl h)
    (fun hx => BoxAt.of (setRow_heap w _ _ _ _ _ hv) (hr.ext hx))
  rw [Env.setBx_same h0] at this
  exact this.1

/-- A store into a row. -/
theorem Inv.setArL (hI : Inv X E ok st a w) {i : Nat} {A : AR} (hA : st.ar[i]? = some (some A)) (hz : A.fz = false) {g o cp e : Nat} (he : E.ar i = some (g, o, cp, e)) {cur : Array Value}
    (hc : w.heap[g]? = some (.cells cur e (0, 0))) {l' : List A.c.ty} (hl : l'.length = A.l.length) {cur' : Array Value} (hs : cur'.size = cur.size)
    (hout : ∀ j, (j < o ∨ o + A.l.length * A.c.sz ≤ j) → cur'[j]? = cur[j]?) (hin : ∀ j u, (flatV A.c l')[j]? = some u → cur'[o + j]? = some u) :
    Inv X E ok (st.setAr i { A with l := l' }) a (w.setRow g cur') := by
  have hnok : ¬ ok g := fun hk => by have := (hI.arok i A g o cp e hA he).1 hk; rw [hz] at this; cases this
  have hlt : i < st.ar.length := get_lt hA
  have ho : ∀ k, k ≠ g → (w.setRow g cur').heap[k]? = w.heap[k]? := fun k hk => setRow_other w _ k _ hk
  have hg : (w.setRow g cur').heap[g]? = some (.cells cur' e (0, 0)) := setRow_heap w _ _ _ _ _ hc
  have hx : Ext w E ok st (w.setRow g cur') E ok (st.setAr i { A with l := l' }) := by
    refine ⟨fun k hk => ho k (by rintro rfl; exact hnok hk), fun _ h => h, fun b cs h => ⟨⟨cs, h⟩, rfl⟩, fun j B h => ?_⟩
    by_cases e : i = j
    · subst e
      rw [hA] at h; injection h with h; injection h with h; subst h
      exact ⟨{ A with l := l' }, List.getElem?_set_self hlt, Nat.le_refl _, fun _ => ⟨rfl, hl, rfl⟩⟩
    · exact ⟨B, (List.getElem?_set_ne e).trans h, Nat.le_refl _, fun _ => ⟨rfl, rfl, rfl⟩⟩
  have key : ∀ (j : Nat) (B : AR), (st.setAr i { A with l := l' }).ar[j]? = some (some B) → (i = j ∧ ({ A with l := l' } : AR) = B) ∨ (i ≠ j ∧ st.ar[j]? = some (some B)) := fun j B h => set_some h hlt
  have old : ∀ (j : Nat) (B : AR), (st.setAr i { A with l := l' }).ar[j]? = some (some B) → ∃ B' : AR, st.ar[j]? = some (some B') ∧ B'.fz = B.fz ∧ B'.lt = B.lt ∧ B'.l.length * B'.c.sz = B.l.length * B.c.sz := fun j B h => by
    rcases key j B h with ⟨rfl, rfl⟩ | ⟨_, h⟩
    · exact ⟨A, hA, rfl, rfl, by simp [hl]⟩
    · exact ⟨B, h, rfl, rfl, rfl⟩
  refine { hI with
    len := hI.len
    tm := fun t p v hp hv => (hI.tm t p v hp hv).ext hx
    bx := fun b cs hb => ?_
    ar := fun j B hB => ?_
    arlen := by simp [St.setAr, hI.arlen]
    arne := fun j j' B B' g1 o1 c1 e1 g2 o2 c2 e2 h h' hg1 hg2 hgg => ?_
    arbx := fun j B b cs g1 o1 c1 e1 h hb hg1 => ?_
    arok := fun j B g1 o1 c1 e1 h hg1 => ?_
    arnew := fun j B g1 o1 c1 e1 h hg1 => ?_
    bxok := fun b cs k hb hk => by rw [setRow_size]; exact hI.bxok b cs k hb hk
    oklt := fun k hk => by rw [setRow_size]; exact hI.oklt k hk
    size := by rw [setRow_size]; exact hI.size
    frame := fun k hk hn => ?_
    lent := fun g1 o1 n1 hg1 => ?_
    lentat := fun j s q hj => by
      obtain ⟨B, k1, k2, k3, k4, k5⟩ := hI.lentat j s q hj
      by_cases e : i = j
      · subst e
        rw [hA] at k1; injection k1 with k1; injection k1 with k1; subst k1
        exact ⟨{ A with l := l' }, List.getElem?_set_self hlt, k2, k3, hl.trans k4, k5⟩
      · exact ⟨B, (List.getElem?_set_ne e).trans k1, k2, k3, k4, k5⟩
    os := hI.os, tape := hI.tape, output := hI.output }
  · exact (hI.bx b cs hb).ext (fun k hk => ho k (fun hh => hI.arbx i A b cs g o cp e hA hb he (hh ▸ hk))) hx
  · rcases key j B hB with ⟨rfl, rfl⟩ | ⟨hne, h⟩
    · rw [he]
      have h0 := hI.ar i A hA
      rw [he] at h0
      obtain ⟨h1, h2, cur1, h3, h4, h5, h6⟩ := h0
      rw [hc] at h3; injection h3 with h3; injection h3 with h3; subst h3
      exact ⟨by simpa [hl] using h1, h2, cur', hg, by rw [hs]; exact h4, fun hh => ⟨(h5 hh).1, by rw [hs]; exact (h5 hh).2⟩, hin⟩
    · exact (hI.ar j B h).ext (fun g1 o1 c1 e1 hg1 => ho g1 (fun hh => hne (hI.arne j i B A g1 o1 c1 e1 g o cp e h hA hg1 he hh).symm))
  · obtain ⟨B1, k1, _⟩ := old j B h
    obtain ⟨B2, k2, _⟩ := old j' B' h'
    exact hI.arne j j' B1 B2 g1 o1 c1 e1 g2 o2 c2 e2 k1 k2 hg1 hg2 hgg
  · obtain ⟨B1, k1, _⟩ := old j B h
    exact hI.arbx j B1 b cs g1 o1 c1 e1 k1 hb hg1
  · obtain ⟨B1, k1, k2, _⟩ := old j B h
    rw [← k2]
    exact hI.arok j B1 g1 o1 c1 e1 k1 hg1
  · obtain ⟨B1, k1, k2, k3, k4⟩ := old j B h
    rw [← k3, ← k4]
    exact hI.arnew j B1 g1 o1 c1 e1 k1 hg1
  · by_cases hh : k = g
    · subst hh
      have := hI.arnew i A k o cp e hA he
      split at this
      · exact absurd ⟨_, _, this⟩ hn
      · omega
    · exact (ho k hh).trans (hI.frame k hk hn)
  · obtain ⟨h1, cur0, cur1, e1, h2, h3, h4, h5⟩ := hI.lent g1 o1 n1 hg1
    by_cases hh : g1 = g
    · subst hh
      rw [hc] at h3; injection h3 with h3; injection h3 with h3 h3'; subst h3; subst h3'
      have h6 := hI.arnew i A g1 o cp e hA he
      split at h6
      · refine ⟨h1, cur0, cur', e, h2, hg, by rw [hs]; exact h4, fun j hj => ?_⟩
        have hu : o1 = o ∧ n1 = A.l.length * A.c.sz := hI.lentu g1 o1 n1 o _ hg1 h6
        obtain ⟨rfl, rfl⟩ := hu
        exact (hout j hj).trans (h5 j hj)
      · omega
    · exact ⟨h1, cur0, cur1, e1, h2, (ho g1 hh).trans h3, h4, h5⟩
/-- A row is plain from now on. -/
theorem Inv.frz (hI : Inv X E ok st a w) {i : Nat} {A : AR} (hA : st.ar[i]? = some (some A)) (hl : A.lt = false) :
    ∃ ok', Inv X E ok' (st.setAr i { A with fz := true }) a w ∧ Ext w E ok st w E ok' (st.setAr i { A with fz := true }) ∧ ∀ g o c e, E.ar i = some (g, o, c, e) → ok' g := by
  have hlt : i < st.ar.length := get_lt hA
  refine ⟨fun b => ok b ∨ ∃ o c e, E.ar i = some (b, o, c, e), ?_⟩
  have hx : Ext w E ok st w E (fun b => ok b ∨ ∃ o c e, E.ar i = some (b, o, c, e)) (st.setAr i { A with fz := true }) := by
    refine ⟨fun k hk => rfl, fun _ h => .inl h, fun b cs h => ⟨⟨cs, h⟩, rfl⟩, fun j B h => ?_⟩
    by_cases e : i = j
    · subst e
      rw [hA] at h; injection h with h; injection h with h; subst h
      exact ⟨{ A with fz := true }, List.getElem?_set_self hlt, Nat.le_refl _, fun _ => ⟨rfl, rfl, rfl⟩⟩
    · exact ⟨B, (List.getElem?_set_ne e).trans h, Nat.le_refl _, fun _ => ⟨rfl, rfl, rfl⟩⟩
  have key : ∀ (j : Nat) (B : AR), (st.setAr i { A with fz := true }).ar[j]? = some (some B) → (i = j ∧ ({ A with fz := true } : AR) = B) ∨ (i ≠ j ∧ st.ar[j]? = some (some B)) := fun j B h => set_some h hlt
  have old : ∀ (j : Nat) (B : AR), (st.setAr i { A with fz := true }).ar[j]? = some (some B) → ∃ B' : AR, st.ar[j]? = some (some B') ∧ B'.lt = B.lt ∧ B'.l.length * B'.c.sz = B.l.length * B.c.sz ∧ (∀ p, ArOk w B' p → ArOk w B p) := fun j B h => by
    rcases key j B h with ⟨rfl, rfl⟩ | ⟨_, h⟩
    · exact ⟨A, hA, rfl, rfl, fun p h => h⟩
    · exact ⟨B, h, rfl, rfl, fun p h => h⟩
  refine ⟨{ hI with
    len := hI.len
    tm := fun t p v hp hv => (hI.tm t p v hp hv).ext hx
    bx := fun b cs hb => ?_
    bxok := fun b cs k hb hf => ?_
    ar := fun j B hB => ?_
    arlen := by simp [St.setAr, hI.arlen]
    arne := fun j j' B B' g1 o1 c1 e1 g2 o2 c2 e2 h h' hg1 hg2 hgg => ?_
    arbx := fun j B b cs g1 o1 c1 e1 h hb hg1 => ?_
    arok := fun j B g1 o1 c1 e1 h hg1 => ?_
    arnew := fun j B g1 o1 c1 e1 h hg1 => ?_
    okold := fun b hb => ?_
    oklt := fun b hb => ?_
    lentat := fun j s q hj => by
      obtain ⟨B, k1, k2, k3, k4, k5⟩ := hI.lentat j s q hj
      by_cases e : i = j
      · subst e
        rw [hA] at k1; injection k1 with k1; injection k1 with k1; subst k1
        rw [hl] at k2; cases k2
      · exact ⟨B, (List.getElem?_set_ne e).trans k1, k2, k3, k4, k5⟩ }, hx, fun g o c e he => .inr ⟨o, c, e, he⟩⟩
  · exact (hI.bx b cs hb).ext (fun _ _ => rfl) hx
  · obtain ⟨B1, k1, _, _, k2⟩ := old j B hB
    exact k2 _ (hI.ar j B1 k1)
  · refine ⟨?_, (hI.bxok b cs k hb hf).2⟩
    rintro (hk | ⟨o, c, e, he⟩)
    · exact (hI.bxok b cs k hb hf).1 hk
    · exact hI.arbx i A b cs _ o c e hA hb he hf
  · obtain ⟨B1, k1, _⟩ := old j B h
    obtain ⟨B2, k2, _⟩ := old j' B' h'
    exact hI.arne j j' B1 B2 g1 o1 c1 e1 g2 o2 c2 e2 k1 k2 hg1 hg2 hgg
  · obtain ⟨B1, k1, _⟩ := old j B h
    exact hI.arbx j B1 b cs g1 o1 c1 e1 k1 hb hg1
  · rcases key j B h with ⟨rfl, rfl⟩ | ⟨hne, h⟩
    · exact ⟨fun _ => rfl, fun _ => .inr ⟨o1, c1, e1, hg1⟩⟩
    · refine ⟨?_, fun hk => .inl ((hI.arok j B g1 o1 c1 e1 h hg1).2 hk)⟩
      rintro (hk | ⟨o, c, e, he⟩)
      · exact (hI.arok j B g1 o1 c1 e1 h hg1).1 hk
      · exact absurd (hI.arne i j A B g1 o c e g1 o1 c1 e1 hA h he hg1 rfl) hne
  · obtain ⟨B1, k1, k2, k3, _⟩ := old j B h
    rw [← k2, ← k3]
    exact hI.arnew j B1 g1 o1 c1 e1 k1 hg1
  · rcases hb with hb | ⟨o, c, e, he⟩
    · exact hI.okold b hb
    · have := hI.arnew i A b o c e hA he
      rw [hl] at this
      exact .inr this
  · rcases hb with hb | ⟨o, c, e, he⟩
    · exact hI.oklt b hb
    · have := hI.ar i A hA
      rw [he] at this
      exact this.lt
end Go.Eng
end
section
set_option linter.unusedVariables false
set_option linter.unusedSimpArgs false
namespace Go.Eng
variable {P : Program} {X : Ctx} {E : Env} {ok : Nat → Prop} {st : St} {a : Act} {w : World}

theorem encV_length : ∀ (c : Cd) (x : c.ty), (c.encV x).length = c.sz
  | .int _, _ => rfl
  | .bool, _ => rfl
  | .str, _ => rfl
  | .pr a b, x => by simp [Cd.encV, Cd.sz, encV_length a, encV_length b]
theorem sz_pos : ∀ c : Cd, 0 < c.sz
  | .int _ => by simp [Cd.sz]
  | .bool => by simp [Cd.sz]
  | .str => by simp [Cd.sz]
  | .pr a b => by have := sz_pos a; simp [Cd.sz]; omega
theorem encV_one : ∀ (c : Cd) (x : c.ty), ∀ v ∈ c.encV x, v.oneCell' = true
  | .int _, x, v, h => by simp [Cd.encV] at h; subst h; rfl
  | .bool, x, v, h => by simp [Cd.encV] at h; subst h; rfl
  | .str, x, v, h => by simp [Cd.encV] at h; subst h; rfl
  | .pr a b, x, v, h => by
    simp only [Cd.encV, List.mem_append] at h
    rcases h with h | h
    · exact encV_one a _ v h
    · exact encV_one b _ v h
theorem flatV_nil (c : Cd) : flatV c [] = [] := rfl
theorem flatV_cons (c : Cd) (x : c.ty) (l : List c.ty) : flatV c (x :: l) = c.encV x ++ flatV c l := rfl
theorem flatV_append (c : Cd) (l m : List c.ty) : flatV c (l ++ m) = flatV c l ++ flatV c m := by simp [flatV]
theorem flatV_length (c : Cd) : ∀ l : List c.ty, (flatV c l).length = l.length * c.sz
  | [] => by simp [flatV]
  | x :: l => by rw [flatV_cons, List.length_append, encV_length, flatV_length c l, List.length_cons, Nat.add_mul, Nat.one_mul, Nat.add_comm]
theorem flatV_one (c : Cd) (l : List c.ty) : ∀ v ∈ flatV c l, v.oneCell' = true := by
  intro v h
  simp only [flatV, List.mem_flatMap] at h
  obtain ⟨x, _, h⟩ := h
  exact encV_one c x v h
theorem flatV_take (c : Cd) (l : List c.ty) (n : Nat) : flatV c (l.take n) = (flatV c l).take (n * c.sz) := by
  induction l generalizing n with
  | nil => simp [flatV]
  | cons x l ih =>
    cases n with
    | zero => simp [flatV]
    | succ n =>
      rw [List.take_succ_cons, flatV_cons, flatV_cons, ih, List.take_append, encV_length, Nat.add_mul, Nat.one_mul, Nat.add_sub_cancel]
      have e : List.take (n * c.sz + c.sz) (c.encV x) = c.encV x := List.take_of_length_le (by rw [encV_length]; omega)
      rw [e]
theorem flatV_drop (c : Cd) (l : List c.ty) (n : Nat) : flatV c (l.drop n) = (flatV c l).drop (n * c.sz) := by
  induction l generalizing n with
  | nil => simp [flatV]
  | cons x l ih =>
    cases n with
    | zero => simp [flatV]
    | succ n =>
      rw [List.drop_succ_cons, flatV_cons, ih, List.drop_append, encV_length, Nat.add_mul, Nat.one_mul, Nat.add_sub_cancel]
      have e : List.drop (n * c.sz + c.sz) (c.encV x) = [] := List.drop_eq_nil_of_le (by rw [encV_length]; omega)
      rw [e, List.nil_append]
theorem flatV_sub {c : Cd} {l : List c.ty} {off len j : Nat} {u : Value} (h : (flatV c ((l.drop off).take len))[j]? = some u) : (flatV c l)[off * c.sz + j]? = some u := by
  rw [flatV_take, flatV_drop, List.getElem?_take] at h
  split at h
  · rwa [List.getElem?_drop] at h
  · cases h
theorem flatV_get {c : Cd} {l : List c.ty} {i : Nat} (hi : i < l.length) {j : Nat} {u : Value} (h : (c.encV (l.getD i c.dflt))[j]? = some u) : (flatV c l)[i * c.sz + j]? = some u := by
  have hj : j < c.sz := by rw [← encV_length c (l.getD i c.dflt)]; exact get_lt h
  have := flatV_sub (c := c) (l := l) (off := i) (len := 1) (j := j) (u := u) (by
    have e : (l.drop i).take 1 = [l[i]] := by
      rw [List.drop_eq_getElem_cons hi]; rfl
    rw [e, flatV_cons, flatV_nil, List.append_nil]
    rw [List.getD_eq_getElem?_getD, List.getElem?_eq_getElem hi] at h
    exact h)
  exact this
theorem arr?_some {i ver : Nat} {A : AR} (h : st.arr? i ver = some A) : st.ar[i]? = some (some A) ∧ A.ver = ver := by
  unfold St.arr? at h
  rw [List.getD_eq_getElem?_getD] at h
  cases h1 : st.ar[i]? with
  | none => rw [h1] at h; cases h
  | some o =>
    rw [h1] at h
    cases o with
    | none => cases h
    | some B =>
      simp only [Option.getD_some] at h
      split at h
      · injection h with h; subst h; exact ⟨rfl, by assumption⟩
      · cases h

theorem box?_some {b : Nat} {cs : List PC} (h : st.box? b = some cs) : st.bx[b]? = some (some cs) ∧ obOf cs = none := by
  unfold St.box? at h
  rw [List.getD_eq_getElem?_getD] at h
  cases hq : st.bx[b]? with
  | none => rw [hq] at h; cases h
  | some z =>
    rw [hq] at h
    simp only [Option.getD_some] at h
    cases z with
    | none => cases h
    | some ds =>
      dsimp only at h
      cases ho : obOf ds with
      | some o => rw [ho] at h; cases h
      | none =>
        rw [ho] at h
        injection h with h; subst h
        exact ⟨rfl, ho⟩
theorem ob?_some {b : Nat} {o : Ob} (h : st.ob? b = some o) : st.bx[b]? = some (some [.objc o]) := by
  unfold St.ob? at h
  rw [List.getD_eq_getElem?_getD] at h
  cases hq : st.bx[b]? with
  | none => rw [hq] at h; cases h
  | some z =>
    rw [hq] at h
    simp only [Option.getD_some] at h
    cases z with
    | none => cases h
    | some ds =>
      dsimp only at h
      unfold obOf at h
      split at h
      · injection h with h; subst h; rfl
      · cases h
theorem RelC.plain_one {p : PC} {v : Value} (h : RelC w E ok st p v) (hp : plainC p = true) : v.oneCell' = true := by
  refine h.one ?_ ?_ ?_ ?_
  · cases p <;> first | rfl | cases hp
  · rintro i ver rfl; cases hp
  · rintro i ver off len rfl; cases hp
  · rintro i ver j off rfl; cases hp
/-- What is handed over, as a plain cell. -/
theorem frozen_sound {p q : PC} {st1 : St} {v : Value} (hI : Inv X E ok st a w) (h : st.frozen p = some (q, st1)) (hr : RelC w E ok st p v) :
    ∃ ok', Inv X E ok' st1 a w ∧ Ext w E ok st w E ok' st1 ∧ RelC w E ok' st1 q v ∧ plainC q = true := by
  unfold St.frozen at h
  split at h
  · rename_i i ver
    split at h
    · rename_i A hA
      obtain ⟨hA, hver⟩ := arr?_some hA
      split at h
      · cases h
      · rename_i hlt
        simp only [Option.some.injEq, Prod.mk.injEq] at h
        obtain ⟨rfl, rfl⟩ := h
        obtain ⟨ok', h1, h2, h3⟩ := hI.frz hA (by simpa using hlt)
        refine ⟨ok', h1, h2, ?_, rfl⟩
        obtain ⟨A', k1, _, k2⟩ := hr
        rw [hA] at k1; injection k1 with k1; injection k1 with k1; subst k1
        have k3 := k2 hver
        have k4 := hI.ar i A hA
        cases he : E.ar i with
        | none =>
          rw [he] at k3 k4
          have k4 : A.l = [] := k4
          exact ⟨none, 0, by rw [k4]; exact k3, by rw [k4]; simp, fun hn => absurd k4 hn⟩
        | some p =>
          obtain ⟨g, o, cap, e⟩ := p
          rw [he] at k3 k4
          obtain ⟨m1, m2, cur, m3, m4, m5, m6⟩ := k4
          exact ⟨_, _, k3, m1, fun _ => ⟨g, o, rfl, h3 g o cap e he, cur, e, _, m3, m6⟩⟩
    · cases h
  · rename_i i ver off len
    split at h
    · rename_i A hA
      obtain ⟨hA, hver⟩ := arr?_some hA
      split at h
      · cases h
      · rename_i hlt
        simp only [Option.some.injEq, Prod.mk.injEq] at h
        obtain ⟨rfl, rfl⟩ := h
        obtain ⟨ok', h1, h2, h3⟩ := hI.frz hA (by simpa using hlt)
        refine ⟨ok', h1, h2, ?_, rfl⟩
        obtain ⟨A', k1, _, k2⟩ := hr
        rw [hA] at k1; injection k1 with k1; injection k1 with k1; subst k1
        obtain ⟨k3, ad, cap, k4, k5, k6⟩ := k2 hver
        have hlen : ((A.l.drop off).take len).length = len := by simp; omega
        refine ⟨ad, cap, by rw [hlen]; exact k4, by rw [hlen]; exact k5, fun hn => ?_⟩
        have hp : 0 < len := by
          rcases Nat.eq_zero_or_pos len with h0 | h0
          · exact absurd (List.eq_nil_of_length_eq_zero (hlen.trans h0)) hn
          · exact h0
        obtain ⟨g, o, cp, e, k7, k8, k9⟩ := k6 hp
        have k10 := hI.ar i A hA
        rw [k7] at k10
        obtain ⟨m1, m2, cur, m3, m4, m5, m6⟩ := k10
        refine ⟨g, o + off * A.c.sz, k8, h3 g o cp e k7, cur, e, _, m3, fun j u hj => ?_⟩
        have := m6 _ u (flatV_sub hj)
        rwa [← Nat.add_assoc] at this
    · cases h
  · cases h
  · cases h
  · cases h
  · cases h
  · cases h
  · rename_i h1 h2 h3 h4 h5 h6 h7
    simp only [Option.some.injEq, Prod.mk.injEq] at h
    obtain ⟨rfl, rfl⟩ := h
    refine ⟨ok, hI, Ext.refl, hr, ?_⟩
    cases p <;> first | rfl | (exact absurd rfl (h1 _ _)) | (exact absurd rfl (h2 _ _ _ _)) | (exact absurd rfl (h3 _ _)) | (exact absurd rfl (h4 _ _ _ _)) | (exact absurd rfl (h5 _ _ _)) | (exact absurd rfl h6) | (exact absurd rfl (h7 _))
theorem frozens_sound : ∀ {ps qs : List PC} {st st1 : St} {ok : Nat → Prop} {vs : List Value}, Inv X E ok st a w → st.frozens ps = some (qs, st1) → RelCs w E ok st ps vs →
    ∃ ok', Inv X E ok' st1 a w ∧ Ext w E ok st w E ok' st1 ∧ RelCs w E ok' st1 qs vs ∧ qs.all plainC = true
  | [], qs, st, st1, ok, vs, hI, h, hr => by
    simp only [St.frozens, Option.some.injEq, Prod.mk.injEq] at h
    obtain ⟨rfl, rfl⟩ := h
    exact ⟨ok, hI, Ext.refl, hr, rfl⟩
  | p :: ps, qs, st, st1, ok, vs, hI, h, hr => by
    simp only [St.frozens] at h
    split at h
    · rename_i q st2 h1
      split at h
      · rename_i qs2 st3 h2
        simp only [Option.some.injEq, Prod.mk.injEq] at h
        obtain ⟨rfl, rfl⟩ := h
        cases vs with
        | nil => have := hr.1; simp at this
        | cons v vs =>
          obtain ⟨ok1, i1, x1, r1, p1⟩ := frozen_sound hI h1 (hr.2 0 p v rfl rfl)
          have hr2 : RelCs w E ok1 st2 ps vs := ⟨by simpa using hr.1, fun j p' v' hp hv => (hr.2 (j + 1) p' v' hp hv).ext x1⟩
          obtain ⟨ok2, i2, x2, r2, p2⟩ := frozens_sound i1 h2 hr2
          refine ⟨ok2, i2, x1.trans x2, ⟨by simp [r2.1], fun j p' v' hp hv => ?_⟩, by simp [p1, p2]⟩
          cases j with
          | zero =>
            simp only [List.getElem?_cons_zero, Option.some.injEq] at hp hv
            subst hp; subst hv
            exact r1.ext x2
          | succ j => exact r2.2 j p' v' hp hv
      · cases h
    · cases h
theorem frozenA_sound {p q : PA} {st1 : St} {v : Value} (hI : Inv X E ok st a w) (h : st.frozenA p = some (q, st1)) (hr : RelA w E ok st p v) :
    ∃ ok', Inv X E ok' st1 a w ∧ Ext w E ok st w E ok' st1 ∧ RelA w E ok' st1 q v ∧ RelCs w E ok' st1 (paCells q) v.cells.toList ∧ (paCells q).all plainC = true := by
  unfold St.frozenA at h
  split at h
  · rename_i p
    split at h
    · rename_i q' st2 h1
      simp only [Option.some.injEq, Prod.mk.injEq] at h
      obtain ⟨rfl, rfl⟩ := h
      obtain ⟨ok1, i1, x1, r1, p1⟩ := frozen_sound hI h1 hr
      have ho := r1.plain_one p1
      have hc : v.cells = #[v] := by cases v <;> first | rfl | cases ho
      refine ⟨ok1, i1, x1, r1, ?_, by simp [paCells, p1]⟩
      rw [hc]
      refine ⟨rfl, fun j p' v' hp hv => ?_⟩
      cases j with
      | zero =>
        simp only [paCells, List.getElem?_cons_zero, Option.some.injEq] at hp hv
        subst hp; subst hv
        exact r1
      | succ j => simp [paCells] at hp
    · cases h
  · rename_i ps
    split at h
    · rename_i qs st2 h1
      simp only [Option.some.injEq, Prod.mk.injEq] at h
      obtain ⟨rfl, rfl⟩ := h
      obtain ⟨vs, rfl, hr⟩ := hr
      obtain ⟨ok1, i1, x1, r1, p1⟩ := frozens_sound hI h1 hr
      exact ⟨ok1, i1, x1, ⟨vs, rfl, r1⟩, by simpa [paCells, Value.cells] using r1, p1⟩
    · cases h
end Go.Eng
end
section
set_option linter.unusedVariables false
set_option linter.unusedSimpArgs false
namespace Go.Eng
variable {R : Type} {P : Program} {X : Ctx} {E : Env} {ok : Nat → Prop} {st : St} {a : Act} {w : World} {r : R} {o : Oper} {K : PV → St → Option R}

theorem run_info {t : TypeId} {i : TypeInfo} (h : P.info? t = some i) : (typeInfo t).run P w = .ok i w := by simp [typeInfo, h]
theorem run_zero {t : TypeId} {i : TypeInfo} {z : Value} (h : P.info? t = some i) (hz : i.zero = some z) : (zeroValue t).run P w = .ok z w := by simp [zeroValue, run_info h, hz]
theorem run_size {t : TypeId} {n : Nat} (h : sizeP P t = some n) : (sizeOf t).run P w = .ok n w := by
  unfold sizeP at h
  cases hi : P.info? t with
  | none => rw [hi] at h; cases h
  | some i =>
    rw [hi] at h
    injection h with h
    simp [sizeOf, run_info hi, h]
theorem run_agg {t : TypeId} {g : Bool} (h : aggP P t = some g) : (isAgg t).run P w = .ok g w := by
  unfold aggP at h
  split at h
  · rename_i fs hu
    injection h with h; subst h
    simp [isAgg, run_und hu]
  · rename_i n e hu
    injection h with h; subst h
    simp [isAgg, run_und hu]
  · rename_i d h1 h2 hu
    injection h with h; subst h
    simp only [isAgg, Sem.run_bind, run_und hu, Result.andThen_ok]
    cases d <;> first | rfl | (exact absurd rfl (h1 _)) | (exact absurd rfl (h2 _ _))
  · cases h
theorem s_box {t : TypeId} {x : Operand} (hI : Inv X E ok st a w) {slot : Nat} (ho : o.op = .box t x)
    (h : (match st.op x with
    | .a pa =>
      match st.frozenA pa with
      | some (q, st1) =>
        match st1.newBx slot (paCells q) with
        | some st2 => K (.one (.box slot 0)) st2
        | none => none
      | none => none
    | _ => none) = some r) : OpSound P X E ok o st a w K r := by
  split at h
  · rename_i pa hx
    split at h
    · rename_i q st1 hq
      split at h
      · rename_i st2 hs
        obtain ⟨hn, rfl⟩ := newBx_some hs
        have hv := hI.op x
        rw [hx] at hv
        obtain ⟨ok1, i1, x1, r1, r2, p1⟩ := frozenA_sound hI hq hv
        obtain ⟨h1, h2⟩ := i1.newBx hn r2 t
        refine ⟨_, _, h, goes_run (run_value (s := Instr.box t (a.eval x)) (by simp only [execOp, ho]) ?_) ⟨_, _, h1, h2⟩⟩
        simp [Instr.box, newVar, newRow]
      · cases h
    · cases h
  · cases h
/-- The cells at an address. -/
theorem cells_sound {p : PC} {n : Nat} {cs : List PC} {v : Value} (hI : Inv X E ok st a w) (h : st.cells? p n = some cs) (hr : RelC w E ok st p v) :
    cs.length = n ∧ ∃ g off vs, v = .pointer (some ⟨g, off, none⟩) ∧ RelCs w E ok st cs vs ∧ ∃ cur e fr, w.heap[g]? = some (.cells cur e fr) ∧ ∀ j u, vs[j]? = some u → cur[off + j]? = some u := by
  have cut : ∀ {cs0 : List PC} {off n : Nat} {ds : List PC}, cellsAt cs0 off n = some ds → off + n ≤ cs0.length ∧ ds = (cs0.drop off).take n := by
    intro cs0 off n ds h
    unfold cellsAt at h
    split at h
    · injection h with h; exact ⟨by assumption, h.symm⟩
    · cases h
  have sub : ∀ {cs0 : List PC} {vs0 : List Value} (off n : Nat), off + n ≤ cs0.length → RelCs w E ok st cs0 vs0 → ((cs0.drop off).take n).length = n ∧ RelCs w E ok st ((cs0.drop off).take n) ((vs0.drop off).take n) := by
    intro cs0 vs0 off n hl hr
    refine ⟨by simp; omega, by have := hr.1; simp; omega, fun j p v hp hv => ?_⟩
    rw [List.getElem?_take] at hp hv
    split at hp
    · rename_i hj
      rw [if_pos hj] at hv
      rw [List.getElem?_drop] at hp hv
      exact hr.2 _ p v hp hv
    · cases hp
  have enc : ∀ (c : Cd) (x : c.ty), RelCs w E ok st (c.enc x) (c.encV x) := by
    intro c
    induction c with
    | int k => intro x; exact ⟨rfl, fun j p v hp hv => by cases j with | zero => (simp [Cd.enc, Cd.encV] at hp hv; subst hp; subst hv; rfl) | succ j => simp [Cd.enc] at hp⟩
    | bool => intro x; exact ⟨rfl, fun j p v hp hv => by cases j with | zero => (simp [Cd.enc, Cd.encV] at hp hv; subst hp; subst hv; rfl) | succ j => simp [Cd.enc] at hp⟩
    | str => intro x; exact ⟨rfl, fun j p v hp hv => by cases j with | zero => (simp [Cd.enc, Cd.encV] at hp hv; subst hp; subst hv; rfl) | succ j => simp [Cd.enc] at hp⟩
    | pr a b iha ihb =>
      intro x
      have h1 := iha x.1
      have h2 := ihb x.2
      refine ⟨by simp [Cd.enc, Cd.encV, h1.1, h2.1], fun j p v hp hv => ?_⟩
      simp only [Cd.enc, Cd.encV] at hp hv
      rw [List.getElem?_append] at hp hv
      rw [h1.1] at hp
      split at hp
      · rename_i hj; rw [if_pos hj] at hv; exact h1.2 j p v hp hv
      · rename_i hj; rw [if_neg hj] at hv; exact h2.2 _ p v hp hv
  unfold St.cells? at h
  split at h
  · rename_i b off
    split at h
    · rename_i cs0 hb
      obtain ⟨h1, rfl⟩ := cut h
      obtain ⟨hb', hob⟩ := box?_some hb
      obtain ⟨_, vs, ty, k1, k2⟩ := (hI.bx b cs0 hb').plain hob
      obtain ⟨s1, s2⟩ := sub off n h1 k2
      refine ⟨s1, E.bx b, off, (vs.drop off).take n, hr.2, s2, _, _, _, k1, fun j u hu => ?_⟩
      rw [List.getElem?_take] at hu
      split at hu
      · rw [List.getElem?_drop] at hu; simpa using hu
      · cases hu
    · cases h
  · rename_i c x off
    obtain ⟨h1, rfl⟩ := cut h
    obtain ⟨g, ofs, k1, k2, cur, e, fr, k3, k4⟩ := hr
    obtain ⟨s1, s2⟩ := sub off n h1 (enc c x)
    refine ⟨s1, g, ofs, _, k1, s2, cur, e, fr, k3, fun j u hu => ?_⟩
    rw [List.getElem?_take] at hu
    split at hu
    · exact k4 j u hu
    · cases hu
  · rename_i i ver j0 off
    split at h
    · rename_i A hA
      obtain ⟨hA, hver⟩ := arr?_some hA
      obtain ⟨h1, rfl⟩ := cut h
      obtain ⟨A', k1, _, k2⟩ := hr
      rw [hA] at k1; injection k1 with k1; injection k1 with k1; subst k1
      obtain ⟨hj0, g, ofs, cp, e, k3, k4⟩ := k2 hver
      have k5 := hI.ar i A hA
      rw [k3] at k5
      obtain ⟨m1, m2, cur, m3, m4, m5, m6⟩ := k5
      obtain ⟨s1, s2⟩ := sub off n h1 (enc A.c (A.l.getD j0 A.c.dflt))
      refine ⟨s1, g, _, _, k4, s2, cur, e, _, m3, fun j u hu => ?_⟩
      rw [List.getElem?_take] at hu
      split at hu
      · rw [List.getElem?_drop] at hu
        have := m6 _ u (flatV_get hj0 hu)
        rwa [show ofs + (j0 * A.c.sz + (off + j)) = ofs + j0 * A.c.sz + off + j by omega] at this
      · cases hu
    · cases h
  · cases h
end Go.Eng
end
section
set_option linter.unusedVariables false
set_option linter.unusedSimpArgs false
namespace Go.Eng
variable {R : Type} {P : Program} {X : Ctx} {E : Env} {ok : Nat → Prop} {st : St} {a : Act} {w : World} {r : R} {o : Oper} {K : PV → St → Option R}

theorem addr_add (g off j : Nat) : (⟨g, off, none⟩ : Addr).add j = ⟨g, off + j, none⟩ := by
  unfold Addr.add; split <;> simp_all
theorem cell_of {g : Nat} {cur : Array Value} {e : TypeId} {fr : Nat × Nat} (h : w.heap[g]? = some (.cells cur e fr)) (j : Nat) : w.cell? ⟨g, j, none⟩ = cur[j]? := by
  simp [World.cell?, h]
theorem s_load {t : TypeId} {x : Operand} (hI : Inv X E ok st a w) (ho : o.op = .load t x)
    (h : (match st.op x, aggP P t, sizeP P t with
    | .a (.c p), some g, some n =>
      match st.cells? p n with
      | some cs =>
        match asVal g cs with
        | some v => K v st
        | none => none
      | none => none
    | _, _, _ => none) = some r) : OpSound P X E ok o st a w K r := by
  split at h
  · rename_i p g n hx hg hn
    split at h
    · rename_i cs hc
      split at h
      · rename_i v hv
        obtain ⟨hl, b, off, vs, e1, hr, cur, e, fr, hb, hcc⟩ := cells_sound hI hc (relC_of hI hx)
        have hcell : ∀ j u, vs[j]? = some u → w.cell? ((⟨b, off, none⟩ : Addr).add j) = some u := fun j u hu => by
          rw [addr_add, cell_of hb]; exact hcc j u hu
        have hlv : vs.length = n := by rw [← hr.1, hl]
        cases g with
        | true =>
          simp only [asVal, if_true, Option.some.injEq] at hv
          subst hv
          refine ⟨_, _, h, goes_pure hI (v' := .agg vs.toArray) (run_value (s := Instr.loadAt t (a.eval x)) (by simp only [execOp, ho]) ?_) ⟨vs, rfl, hr⟩⟩
          rw [e1]
          have := run_loadCells_list (P := P) w ⟨b, off, none⟩ vs hcell
          rw [hlv] at this
          simp [Instr.loadAt, Instr.sureAddr, loadVar, run_agg hg, run_size hn, this]
        | false =>
          simp only [asVal, Bool.false_eq_true, if_false] at hv
          split at hv
          · rename_i q
            simp only [Option.some.injEq] at hv
            subst hv
            have : vs.length = 1 := by rw [← hr.1]; rfl
            obtain ⟨u, rfl⟩ : ∃ u, vs = [u] := List.length_eq_one_iff.1 this
            refine ⟨_, _, h, goes_pure hI (v' := u) (run_value (s := Instr.loadAt t (a.eval x)) (by simp only [execOp, ho]) ?_) (hr.2 0 q u rfl rfl)⟩
            rw [e1]
            have h0 := hcell 0 u rfl
            rw [addr_add] at h0
            simp only [Nat.add_zero] at h0
            simp [Instr.loadAt, Instr.sureAddr, loadVar, run_agg hg, h0]
          · cases hv
      · cases h
    · cases h
  · cases h
theorem relCs_splice {cs : List PC} {vs : List Value} {off : Nat} {ds : List PC} {us : List Value} (h : RelCs w E ok st cs vs) (h2 : RelCs w E ok st ds us) (hl : off + ds.length ≤ cs.length) :
    RelCs w E ok st (spliceC cs off ds) (vs.take off ++ us ++ vs.drop (off + us.length)) := by
  have e1 := h.1
  have e2 := h2.1
  refine ⟨by simp [spliceC]; omega, fun j p v hp hv => ?_⟩
  unfold spliceC at hp
  rw [List.append_assoc] at hp hv
  rw [List.getElem?_append] at hp hv
  rw [List.length_take, Nat.min_eq_left (by omega)] at hp hv
  split at hp
  · rename_i hj
    rw [if_pos hj] at hv
    rw [List.getElem?_take_of_lt hj] at hp hv
    exact h.2 j p v hp hv
  · rename_i hj
    rw [if_neg hj] at hv
    rw [List.getElem?_append] at hp hv
    rw [e2] at hp
    split at hp
    · rename_i hk
      rw [if_pos hk] at hv
      exact h2.2 _ p v hp hv
    · rename_i hk
      rw [if_neg hk] at hv
      rw [List.getElem?_drop] at hp hv
      rw [← e2] at hp hv
      exact h.2 _ p v hp hv
theorem dec_enc : ∀ (c : Cd) (ps r : List PC) (x : c.ty), c.dec ps = some (x, r) → ps = c.enc x ++ r
  | .int k, ps, r, x, h => by
    simp only [Cd.dec] at h
    split at h
    · split at h
      · rename_i hk
        subst hk
        simp only [Option.some.injEq, Prod.mk.injEq] at h
        obtain ⟨rfl, rfl⟩ := h
        rfl
      · cases h
    · cases h
  | .bool, ps, r, x, h => by
    simp only [Cd.dec] at h
    split at h
    · simp only [Option.some.injEq, Prod.mk.injEq] at h
      obtain ⟨rfl, rfl⟩ := h
      rfl
    · cases h
  | .str, ps, r, x, h => by
    simp only [Cd.dec] at h
    split at h
    · simp only [Option.some.injEq, Prod.mk.injEq] at h
      obtain ⟨rfl, rfl⟩ := h
      rfl
    · cases h
  | .pr a b, ps, r, x, h => by
    simp only [Cd.dec] at h
    split at h
    · rename_i y s h1
      split at h
      · rename_i z s2 h2
        simp only [Option.some.injEq, Prod.mk.injEq] at h
        obtain ⟨rfl, rfl⟩ := h
        have e1 := dec_enc a ps s y h1
        have e2 := dec_enc b s s2 z h2
        rw [e1, e2]
        simp [Cd.enc]
      · cases h
    · cases h
/-- The cells of a codec's value tell the values. -/
theorem enc_vals : ∀ (c : Cd) (x : c.ty) (vs : List Value), RelCs w E ok st (c.enc x) vs → vs = c.encV x
  | .int k, x, vs, h => by
    obtain ⟨u, rfl⟩ : ∃ u, vs = [u] := List.length_eq_one_iff.1 h.1.symm
    have : u = _ := h.2 0 _ u rfl rfl
    rw [this]; rfl
  | .bool, x, vs, h => by
    obtain ⟨u, rfl⟩ : ∃ u, vs = [u] := List.length_eq_one_iff.1 h.1.symm
    have : u = _ := h.2 0 _ u rfl rfl
    rw [this]; rfl
  | .str, x, vs, h => by
    obtain ⟨u, rfl⟩ : ∃ u, vs = [u] := List.length_eq_one_iff.1 h.1.symm
    have : u = _ := h.2 0 _ u rfl rfl
    rw [this]; rfl
  | .pr a b, x, vs, h => by
    have hl := h.1
    simp only [Cd.enc, List.length_append] at hl
    have h1 : RelCs w E ok st (a.enc x.1) (vs.take (a.enc x.1).length) := by
      refine ⟨by simp; omega, fun j p v hp hv => ?_⟩
      have hj := get_lt hp
      rw [List.getElem?_take_of_lt hj] at hv
      exact h.2 j p v (by simp only [Cd.enc]; rw [List.getElem?_append_left hj]; exact hp) hv
    have h2 : RelCs w E ok st (b.enc x.2) (vs.drop (a.enc x.1).length) := by
      refine ⟨by simp; omega, fun j p v hp hv => ?_⟩
      rw [List.getElem?_drop] at hv
      exact h.2 _ p v (by simp only [Cd.enc]; rw [List.getElem?_append_right (by omega), Nat.add_sub_cancel_left]; exact hp) hv
    have e1 := enc_vals a x.1 _ h1
    have e2 := enc_vals b x.2 _ h2
    rw [← List.take_append_drop (a.enc x.1).length vs, e1, e2]
    rfl
theorem encRel : ∀ (c : Cd) (x : c.ty), RelCs w E ok st (c.enc x) (c.encV x)
  | .int k, x => ⟨rfl, fun j p v hp hv => by cases j with | zero => (simp [Cd.enc, Cd.encV] at hp hv; subst hp; subst hv; rfl) | succ j => simp [Cd.enc] at hp⟩
  | .bool, x => ⟨rfl, fun j p v hp hv => by cases j with | zero => (simp [Cd.enc, Cd.encV] at hp hv; subst hp; subst hv; rfl) | succ j => simp [Cd.enc] at hp⟩
  | .str, x => ⟨rfl, fun j p v hp hv => by cases j with | zero => (simp [Cd.enc, Cd.encV] at hp hv; subst hp; subst hv; rfl) | succ j => simp [Cd.enc] at hp⟩
  | .pr a b, x => by
    have h1 := encRel a x.1
    have h2 := encRel b x.2
    refine ⟨by simp [Cd.enc, Cd.encV, h1.1, h2.1], fun j p v hp hv => ?_⟩
    simp only [Cd.enc, Cd.encV] at hp hv
    rw [List.getElem?_append] at hp hv
    rw [h1.1] at hp
    split at hp
    · rename_i hj; rw [if_pos hj] at hv; exact h1.2 j p v hp hv
    · rename_i hj; rw [if_neg hj] at hv; exact h2.2 _ p v hp hv
theorem enc_length : ∀ (c : Cd) (x : c.ty), (c.enc x).length = c.sz
  | .int _, _ => rfl
  | .bool, _ => rfl
  | .str, _ => rfl
  | .pr a b, x => by simp [Cd.enc, Cd.sz, enc_length a, enc_length b]
theorem get_splice {α : Type} {l us : List α} {p q : Nat} (hp : p + us.length ≤ l.length) : (l.take p ++ us ++ l.drop (p + us.length))[q]? = if q < p then l[q]? else if q < p + us.length then us[q - p]? else l[q]? := by
  rw [List.append_assoc, List.getElem?_append, List.length_take, Nat.min_eq_left (by omega)]
  split
  · rename_i h
    rw [List.getElem?_take_of_lt h]
  · rename_i h
    rw [List.getElem?_append]
    by_cases h2 : q < p + us.length
    · rw [if_pos h2, if_pos (by omega)]
    · rw [if_neg h2, if_neg (by omega), List.getElem?_drop]
      congr 1
      omega
theorem flatV_set (c : Cd) (l : List c.ty) (j : Nat) (y : c.ty) (hj : j < l.length) : flatV c (l.set j y) = (flatV c l).take (j * c.sz) ++ c.encV y ++ (flatV c l).drop (j * c.sz + (c.encV y).length) := by
  rw [List.set_eq_take_append_cons_drop, if_pos hj, flatV_append, flatV_cons, flatV_take, flatV_drop, encV_length, ← List.append_assoc, Nat.add_mul, Nat.one_mul]
theorem run_store_at {t : TypeId} {n g off : Nat} {v : Value} {cur : Array Value} {e : TypeId} (hn : sizeP P t = some n) (hc : w.heap[g]? = some (.cells cur e (0, 0))) (hs : v.cells.toList.length = n) (hl : off + n ≤ cur.size) (h1 : ∀ u ∈ v.cells.toList, u.oneCell' = true) :
    (Instr.storeAt t (.pointer (some ⟨g, off, none⟩)) v).run P w = .ok () (w.setRow g (cur.toList.take off ++ v.cells.toList ++ cur.toList.drop (off + v.cells.toList.length)).toArray) := by
  have h2 := run_storeCells_at P g off e v.cells.toList 0 cur w hc (by omega) h1
  simp only [Nat.add_zero] at h2
  have h3 : v.cells.size = n := by simpa using hs
  simp only [Instr.storeAt, Instr.sureAddr, Sem.run_bind, Sem.run_pure, Result.andThen_ok, storeVar, run_size hn, h3, ne_eq, not_true_eq_false, if_false, h2]
theorem s_store {t : TypeId} {x y : Operand} (hI : Inv X E ok st a w) (ho : o.op = .store t x y)
    (h : (match st.op x, st.op y, sizeP P t with
    | .a (.c p), .a pa, some n =>
      match st.frozenA pa with
      | some (q, st1) =>
        let vs := paCells q
        if vs.length = n then
          match p with
          | .box b off =>
            match st1.box? b with
            | some cs => if off + n ≤ cs.length then K (.tup []) (st1.setBx b (spliceC cs off vs)) else none
            | none => none
          | .arr i ver j off =>
            match st1.arr? i ver with
            | some A =>
              if A.fz then none else
              if off + n ≤ A.c.sz then
                match A.c.dec (spliceC (A.c.enc (A.l.getD j A.c.dflt)) off vs) with
                | some (y, []) => K (.tup []) (st1.setAr i { A with l := A.l.set j y })
                | _ => none
              else none
            | none => none
          | _ => none
        else none
      | none => none
    | _, _, _ => none) = some r) : OpSound P X E ok o st a w K r := by
  split at h
  · rename_i p pa n hx hy hn
    split at h
    · rename_i q st1 hq
      have hv := hI.op y
      rw [hy] at hv
      obtain ⟨ok1, i1, x1, r1, r2, p1⟩ := frozenA_sound hI hq hv
      have ra := (relC_of hI hx).ext x1
      have hone : ∀ u ∈ (a.eval y).cells.toList, u.oneCell' = true := by
        intro u hu
        obtain ⟨j, hj⟩ := List.mem_iff_getElem?.1 hu
        have hjl : j < (paCells q).length := by rw [r2.1]; exact get_lt hj
        have hpj : (paCells q)[j]? = some (paCells q)[j] := List.getElem?_eq_getElem hjl
        exact (r2.2 j _ u hpj hj).plain_one (List.all_eq_true.1 p1 _ (List.getElem_mem hjl))
      have hrun : ∀ {w' : World}, (Instr.storeAt t (a.eval x) (a.eval y)).run P w = .ok () w' → (execOp a.eval o).run P w = .ok .skip w' := fun hh => by
        simp only [execOp, ho, Sem.run_bind, hh, Result.andThen_ok, Sem.run_pure]
      dsimp only at h
      split at h
      · rename_i hlen
        have hlen2 : (a.eval y).cells.toList.length = n := by rw [← r2.1]; exact hlen
        split at h
        · rename_i b off
          split at h
          · rename_i cs hb
            obtain ⟨hb, hob⟩ := box?_some hb
            split at h
            · rename_i hle
              obtain ⟨_, vs, ty, k1, k2⟩ := (i1.bx b cs hb).plain hob
              have hsp := relCs_splice (off := off) k2 r2 (by omega)
              have hi2 := i1.setBx hb hob hsp
              have e1 : a.eval x = .pointer (some ⟨E.bx b, off, none⟩) := ra.2
              have hst := run_store_at (P := P) (v := a.eval y) (off := off) (n := n) hn k1 hlen2 (by have h9 := k2.1; rw [List.size_toArray]; omega) hone
              rw [← e1] at hst
              exact ⟨_, _, h, goes_skip (hrun hst) ⟨E, ok1, hi2, ⟨[], rfl, rfl, fun j x v hx => by simp at hx⟩⟩⟩
            · cases h
          · cases h
        · rename_i i ver j off
          split at h
          · rename_i A hA
            obtain ⟨hA, hver⟩ := arr?_some hA
            split at h
            · cases h
            · rename_i hfz
              split at h
              · rename_i hle
                split at h
                · rename_i z hdec
                  obtain ⟨A', k1, _, k2⟩ := ra
                  rw [hA] at k1; injection k1 with k1; injection k1 with k1; subst k1
                  obtain ⟨hj, g, ofs, cp, e, k3, e1⟩ := k2 hver
                  have k4 := i1.ar i A hA
                  rw [k3] at k4
                  obtain ⟨m1, m2, cur, m3, m4, m5, m6⟩ := k4
                  have hsz := Nat.mul_le_mul_right A.c.sz (Nat.succ_le_of_lt hj)
                  have hsz2 := Nat.mul_le_mul_right A.c.sz m1
                  rw [Nat.succ_mul] at hsz
                  have hst := run_store_at (P := P) (v := a.eval y) (off := ofs + j * A.c.sz + off) hn m3 hlen2 (by omega) hone
                  rw [← e1] at hst
                  have henc := dec_enc A.c _ _ z hdec
                  rw [List.append_nil] at henc
                  have hsp := relCs_splice (off := off) (encRel (w := w) (E := E) (ok := ok1) (st := st1) A.c (A.l.getD j A.c.dflt)) r2 (by rw [enc_length]; omega)
                  rw [henc] at hsp
                  have hvals := enc_vals A.c z _ hsp
                  have hcl : cur.toList.length = cur.size := by simp
                  have hi2 := i1.setArL hA (by simpa using hfz) k3 m3 (l' := A.l.set j z) (by simp)
                    (cur' := (cur.toList.take (ofs + j * A.c.sz + off) ++ (a.eval y).cells.toList ++ cur.toList.drop (ofs + j * A.c.sz + off + (a.eval y).cells.toList.length)).toArray)
                    (by simp only [List.size_toArray, List.length_append, List.length_take, List.length_drop]; omega)
                    (fun k hk => by
                      rw [List.getElem?_toArray, get_splice (by omega)]
                      rw [show cur[k]? = cur.toList[k]? by simp]
                      split
                      · rfl
                      · rw [if_neg (by omega)])
                    (fun k u hu => by
                      rw [List.getElem?_toArray, get_splice (by omega)]
                      have hkl := get_lt hu
                      rw [flatV_length, List.length_set] at hkl
                      have old : ∀ k u, (flatV A.c A.l)[k]? = some u → cur.toList[ofs + k]? = some u := fun k u hk => by simpa using m6 k u hk
                      rw [flatV_set A.c A.l j z hj, get_splice (by rw [flatV_length, encV_length]; omega), encV_length] at hu
                      by_cases c1 : k < j * A.c.sz
                      · rw [if_pos c1] at hu
                        rw [if_pos (by omega)]
                        exact old k u hu
                      · rw [if_neg c1] at hu
                        by_cases c2 : k < j * A.c.sz + A.c.sz
                        · rw [if_pos c2, ← hvals, get_splice (by rw [encV_length]; omega)] at hu
                          by_cases c3 : k - j * A.c.sz < off
                          · rw [if_pos c3] at hu
                            rw [if_pos (by omega)]
                            have := old _ u (flatV_get hj hu)
                            rwa [show j * A.c.sz + (k - j * A.c.sz) = k by omega] at this
                          · rw [if_neg c3] at hu
                            rw [if_neg (by omega)]
                            by_cases c4 : k - j * A.c.sz < off + (a.eval y).cells.toList.length
                            · rw [if_pos c4] at hu
                              rw [if_pos (by omega)]
                              rwa [show ofs + k - (ofs + j * A.c.sz + off) = k - j * A.c.sz - off by omega]
                            · rw [if_neg c4] at hu
                              rw [if_neg (by omega)]
                              have := old _ u (flatV_get hj hu)
                              rwa [show j * A.c.sz + (k - j * A.c.sz) = k by omega] at this
                        · rw [if_neg c2] at hu
                          rw [if_neg (by omega), if_neg (by omega)]
                          exact old k u hu)
                  exact ⟨_, _, h, goes_skip (hrun hst) ⟨E, ok1, hi2, ⟨[], rfl, rfl, fun j x v hx => by simp at hx⟩⟩⟩
                · cases h
              · cases h
          · cases h
        · cases h
      · cases h
    · cases h
  · cases h
end Go.Eng
end
section
set_option linter.unusedVariables false
set_option linter.unusedSimpArgs false
namespace Go.Eng
variable {R : Type} {P : Program} {X : Ctx} {E : Env} {ok : Nat → Prop} {st : St} {a : Act} {w : World} {r : R} {o : Oper} {K : PV → St → Option R}

theorem s_nilCheck {x : Operand} (hI : Inv X E ok st a w) (ho : o.op = .nilCheck x)
    (h : (match st.op x with
    | .a (.c (.box b off)) => K (.one (.box b off)) st
    | .a (.c (.elt c y off)) => K (.one (.elt c y off)) st
    | .a (.c (.arr i ver j off)) => (match st.arr? i ver with | some _ => K (.one (.arr i ver j off)) st | none => none)
    | _ => none) = some r) : OpSound P X E ok o st a w K r := by
  split at h
  · rename_i b off hx
    have hr := relC_of hI hx
    refine ⟨_, _, h, goes_pure hI (v' := a.eval x) ?_ hr⟩
    have e := hr.2
    simp [execOp, ho, e]
  · rename_i c y off hx
    have hr := relC_of hI hx
    refine ⟨_, _, h, goes_pure hI (v' := a.eval x) ?_ hr⟩
    obtain ⟨g, o', e, _⟩ := hr
    simp [execOp, ho, e]
  · rename_i i ver j off hx
    split at h
    · rename_i A hA
      obtain ⟨hA, hver⟩ := arr?_some hA
      have hr := relC_of hI hx
      refine ⟨_, _, h, goes_pure hI (v' := a.eval x) ?_ hr⟩
      obtain ⟨A', k1, _, k2⟩ := hr
      rw [hA] at k1; injection k1 with k1; injection k1 with k1; subst k1
      obtain ⟨_, g, o', cp, e, _, e1⟩ := k2 hver
      simp [execOp, ho, e1]
    · cases h
  · cases h
theorem run_place {g off : Nat} {fl : Field} {n : Nat} (hn : sizeP P fl.type = some n) (hp : 0 < n) : (fieldPlace ⟨g, off, none⟩ fl).run P w = .ok ⟨g, off + fl.offset, none⟩ w := by
  simp [fieldPlace, run_size hn, Nat.pos_iff_ne_zero.1 hp, addr_add]
theorem s_fieldAddr {s : TypeId} {x : Operand} {f : Nat} (hI : Inv X E ok st a w) (ho : o.op = .fieldAddr s x f)
    (h : (match P.underlying s with
    | some (.struct fs) =>
      match fs[f]? with
      | some fl =>
        match sizeP P fl.type with
        | some n =>
          if 0 < n then
            match st.op x with
            | .a (.c (.box b off)) => K (.one (.box b (off + fl.offset))) st
            | .a (.c (.arr i ver j off)) => (match st.arr? i ver with | some _ => K (.one (.arr i ver j (off + fl.offset))) st | none => none)
            | .a (.c (.elt c y off)) => K (.one (.elt c y (off + fl.offset))) st
            | _ => none
          else none
        | none => none
      | none => none
    | _ => none) = some r) : OpSound P X E ok o st a w K r := by
  split at h
  · rename_i fs hu
    split at h
    · rename_i fl hf
      split at h
      rotate_left
      · cases h
      rename_i n hn
      split at h
      · rename_i hp
        have hrun : ∀ g off, (Instr.fieldAt s (.pointer (some ⟨g, off, none⟩)) f).run P w = .ok (.pointer (some ⟨g, off + fl.offset, none⟩)) w := fun g off => by
          simp [Instr.fieldAt, run_und hu, hf, Instr.sureAddr, run_place hn hp]
        split at h
        · rename_i b off hx
          have hr := relC_of hI hx
          exact ⟨_, _, h, goes_pure hI (run_value (s := Instr.fieldAt s (a.eval x) f) (by simp only [execOp, ho]) (by rw [hr.2]; exact hrun _ _)) ⟨hr.1, rfl⟩⟩
        · rename_i i ver j off hx
          split at h
          · rename_i A hA
            obtain ⟨hA, hver⟩ := arr?_some hA
            obtain ⟨A', k1, k0, k2⟩ := relC_of hI hx
            rw [hA] at k1; injection k1 with k1; injection k1 with k1; subst k1
            obtain ⟨k4, g, o', cp, e, k3, e1⟩ := k2 hver
            exact ⟨_, _, h, goes_pure hI (run_value (s := Instr.fieldAt s (a.eval x) f) (by simp only [execOp, ho]) (by rw [e1]; exact hrun _ _)) ⟨A, hA, k0, fun _ => ⟨k4, g, o', cp, e, k3, by rw [Nat.add_assoc]⟩⟩⟩
          · cases h
        · rename_i c y off hx
          obtain ⟨g, o', e1, k1, cur, e, fr, k2, k3⟩ := relC_of hI hx
          refine ⟨_, _, h, goes_pure hI (run_value (s := Instr.fieldAt s (a.eval x) f) (by simp only [execOp, ho]) (by rw [e1]; exact hrun _ _)) ⟨g, _, rfl, k1, cur, e, fr, k2, fun j u hj => ?_⟩⟩
          rw [List.getElem?_drop] at hj
          have := k3 (fl.offset + j) u (by rw [List.getElem?_drop, ← Nat.add_assoc]; exact hj)
          rwa [← Nat.add_assoc] at this
        · cases h
      · cases h
    · cases h
  · cases h
theorem relCs_sub {cs : List PC} {vs : List Value} {off n : Nat} (hr : RelCs w E ok st cs vs) : RelCs w E ok st ((cs.drop off).take n) ((vs.drop off).take n) := by
  refine ⟨by have := hr.1; simp; omega, fun j p v hp hv => ?_⟩
  rw [List.getElem?_take] at hp hv
  split at hp
  · rename_i hj
    rw [if_pos hj] at hv
    rw [List.getElem?_drop] at hp hv
    exact hr.2 _ p v hp hv
  · cases hp
theorem s_field {t : TypeId} {x : Operand} {f : Nat} (hI : Inv X E ok st a w) (ho : o.op = .field t x f)
    (h : (match P.underlying t with
    | some (.struct fs) =>
      match fs[f]?, st.op x with
      | some fl, .a (.agg cs) =>
        match aggP P fl.type, sizeP P fl.type with
        | some g, some n =>
          match cellsAt cs fl.offset n with
          | some ds =>
            match asVal g ds with
            | some v => K v st
            | none => none
          | none => none
        | _, _ => none
      | _, _ => none
    | _ => none) = some r) : OpSound P X E ok o st a w K r := by
  split at h
  · rename_i fs hu
    split at h
    · rename_i fl cs hf hx
      split at h
      · rename_i g n hg hn
        split at h
        · rename_i ds hd
          have hcut : fl.offset + n ≤ cs.length ∧ ds = (cs.drop fl.offset).take n := by
            unfold cellsAt at hd
            split at hd
            · injection hd with hd; exact ⟨by assumption, hd.symm⟩
            · cases hd
          split at h
          · rename_i v hv
            have hx2 := hI.op x
            rw [hx] at hx2
            obtain ⟨vs, e1, hr⟩ := hx2
            have hl := hr.1
            have hsub := relCs_sub (off := fl.offset) (n := n) hr
            rw [← hcut.2] at hsub
            cases g with
            | true =>
              simp only [asVal, if_true, Option.some.injEq] at hv
              subst hv
              refine ⟨_, _, h, goes_pure hI (run_value (s := Instr.field t (a.eval x) f) (by simp only [execOp, ho]) ?_) ⟨_, rfl, hsub⟩⟩
              rw [e1]
              have : (vs.toArray.extract fl.offset (fl.offset + n)) = (((vs.drop fl.offset).take n).toArray) := by
                simp
              simp [Instr.field, run_und hu, hf, asAgg, part, run_agg hg, run_size hn]
            | false =>
              simp only [asVal, Bool.false_eq_true, if_false] at hv
              split at hv
              · rename_i q
                simp only [Option.some.injEq] at hv
                subst hv
                have h1 : ((vs.drop fl.offset).take n).length = 1 := by rw [← hsub.1]; rfl
                obtain ⟨u, hu1⟩ : ∃ u, (vs.drop fl.offset).take n = [u] := List.length_eq_one_iff.1 h1
                have hu2 : vs[fl.offset]? = some u := by
                  have : ((vs.drop fl.offset).take n)[0]? = some u := by rw [hu1]; rfl
                  rw [List.getElem?_take] at this
                  split at this
                  · rw [List.getElem?_drop] at this; simpa using this
                  · cases this
                rw [hu1] at hsub
                refine ⟨_, _, h, goes_pure hI (v' := u) (run_value (s := Instr.field t (a.eval x) f) (by simp only [execOp, ho]) ?_) (hsub.2 0 q u rfl rfl)⟩
                rw [e1]
                simp [Instr.field, run_und hu, hf, asAgg, part, run_agg hg, hu2]
              · cases hv
          · cases h
        · cases h
      · cases h
    · cases h
  · cases h
theorem ixOf_some {x : Operand} {n : Int} (hI : Inv X E ok st a w) (h : ixOf (st.op x) = some n) : ∃ k, a.eval x = .int k n := by
  unfold ixOf at h
  split at h
  · rename_i k i hx
    injection h with h; subst h
    exact ⟨k, relC_of hI hx⟩
  · cases h
theorem elemP_some {t e : TypeId} (h : elemP P t = some e) : P.underlying t = some (.slice e) := by
  unfold elemP at h
  split at h
  · injection h with h; subst h; assumption
  · cases h
theorem run_index {t e : TypeId} {sz : Nat} {k : IntKind} {i : Int} {len cap g o : Nat} (hu : P.underlying t = some (.slice e)) (hs : sizeP P e = some sz) (h0 : 0 ≤ i) (h1 : i < len) :
    (Instr.indexAt t (.slice (some ⟨g, o, none⟩) len cap) (.int k i)).run P w = .ok (.pointer (some ⟨g, o + i.toNat * sz, none⟩)) w := by
  simp [Instr.indexAt, asIntOf, run_und hu, h0, h1, run_size hs, addr_add]
theorem arrE_some {t e : TypeId} {n : Nat} (h : arrE P t = some (n, e)) : P.underlying t = some (.array n e) := by
  unfold arrE at h
  split at h
  · injection h with h
    injection h with h1 h2
    subst h1; subst h2; assumption
  · cases h
theorem run_indexArr {t e : TypeId} {sz m : Nat} {k : IntKind} {i : Int} {g o : Nat} (hu : P.underlying t = some (.array m e)) (hs : sizeP P e = some sz) (h0 : 0 ≤ i) (h1 : i < m) :
    (Instr.indexAt t (.pointer (some ⟨g, o, none⟩)) (.int k i)).run P w = .ok (.pointer (some ⟨g, o + i.toNat * sz, none⟩)) w := by
  simp [Instr.indexAt, Instr.sureAddr, asIntOf, run_und hu, h0, h1, run_size hs, addr_add]
theorem s_indexAddr {t : TypeId} {x i : Operand} (hI : Inv X E ok st a w) (ho : o.op = .indexAddr t x i)
    (h : (match elemP P t, ixOf (st.op i), st.op x with
    | some e, some n, .a (.c p) =>
      match st.sl? p with
      | some s => if sizeP P e = some s.c.sz then idxK st p n fun q => K (.one q) st else none
      | none => none
    | none, some n, .a (.c (.arr i ver 0 0)) =>
      match arrE P t with
      | some (m, e) =>
        match st.arr? i ver with
        | some A => if sizeP P e = some A.c.sz ∧ A.l.length = m then (if 0 ≤ n ∧ n < m then K (.one (.arr i ver n.toNat 0)) st else none) else none
        | none => none
      | none => none
    | none, some n, .a (.c (.box b off)) =>
      match arrE P t with
      | some (m, e) =>
        match sizeP P e with
        | some k => if 0 ≤ n ∧ n < m then K (.one (.box b (off + n.toNat * k))) st else none
        | none => none
      | none => none
    | _, _, _ => none) = some r) : OpSound P X E ok o st a w K r := by
  split at h
  · rename_i e n p he hn hx
    have hu := elemP_some he
    obtain ⟨k, hi⟩ := ixOf_some hI hn
    have hr := relC_of hI hx
    split at h
    · rename_i s hs
      split at h
      · rename_i hsz
        unfold idxK at h
        split at h
        · rename_i c l
          simp only [St.sl?, Option.some.injEq] at hs
          subst hs
          split at h
          · rename_i hb
            obtain ⟨A, cap, e1, k1, k2⟩ := hr
            have hlt : n.toNat < l.length := by omega
            obtain ⟨g, o', rfl, k3, cur, e', fr, k4, k5⟩ := k2 (by rintro rfl; simp at hlt)
            refine ⟨_, _, h, goes_pure hI (run_value (s := Instr.indexAt t (a.eval x) (a.eval i)) (by simp only [execOp, ho]) (by rw [e1, hi]; exact run_index hu hsz hb.1 hb.2)) ⟨g, _, rfl, k3, cur, e', fr, k4, fun j u hj => ?_⟩⟩
            rw [List.drop_zero] at hj
            have := k5 _ u (flatV_get hlt hj)
            rwa [← Nat.add_assoc] at this
          · cases h
        · rename_i j ver
          split at h
          · rename_i A hA
            simp only [St.sl?, hA, Option.some.injEq] at hs
            subst hs
            obtain ⟨hA, hver⟩ := arr?_some hA
            split at h
            · rename_i hb
              obtain ⟨A', k1, k0, k2⟩ := hr
              rw [hA] at k1; injection k1 with k1; injection k1 with k1; subst k1
              have k3 := k2 hver
              have k4 := hI.ar j A hA
              cases hE : E.ar j with
              | none =>
                rw [hE] at k4
                have k4 : A.l = [] := k4
                rw [k4] at hb
                simp at hb
                omega
              | some q =>
                obtain ⟨g, o', cp, e'⟩ := q
                rw [hE] at k3
                have k3 : a.eval x = _ := k3
                exact ⟨_, _, h, goes_pure hI (run_value (s := Instr.indexAt t (a.eval x) (a.eval i)) (by simp only [execOp, ho]) (by rw [k3, hi]; exact run_index hu hsz hb.1 hb.2)) ⟨A, hA, k0, fun _ => ⟨by omega, g, o', cp, e', hE, by simp⟩⟩⟩
            · cases h
          · cases h
        · rename_i j ver off len
          split at h
          · rename_i A hA
            simp only [St.sl?, hA, Option.some.injEq] at hs
            subst hs
            obtain ⟨hA, hver⟩ := arr?_some hA
            split at h
            · rename_i hb
              obtain ⟨A', k1, k0, k2⟩ := hr
              rw [hA] at k1; injection k1 with k1; injection k1 with k1; subst k1
              obtain ⟨k3, ad, cap, e1, k4, k5⟩ := k2 hver
              obtain ⟨g, o', cp, e', hE, rfl, k6⟩ := k5 (by omega)
              refine ⟨_, _, h, goes_pure hI (run_value (s := Instr.indexAt t (a.eval x) (a.eval i)) (by simp only [execOp, ho]) (by rw [e1, hi]; exact run_index hu hsz hb.1 hb.2)) ⟨A, hA, k0, fun _ => ⟨by omega, g, o', cp, e', hE, ?_⟩⟩⟩
              simp [Nat.add_mul, Nat.add_assoc]
            · cases h
          · cases h
        · cases h
      · cases h
    · cases h
  · rename_i n j ver he hn hx
    obtain ⟨k, hi⟩ := ixOf_some hI hn
    have hr := relC_of hI hx
    split at h
    · rename_i m e hm
      have hu := arrE_some hm
      split at h
      · rename_i A hA
        obtain ⟨hA, hver⟩ := arr?_some hA
        split at h
        · rename_i hc
          split at h
          · rename_i hb
            obtain ⟨A', k1, k0, k2⟩ := hr
            rw [hA] at k1; injection k1 with k1; injection k1 with k1; subst k1
            obtain ⟨_, g, o', cp, e', hE, e1⟩ := k2 hver
            refine ⟨_, _, h, goes_pure hI (run_value (s := Instr.indexAt t (a.eval x) (a.eval i)) (by simp only [execOp, ho]) (by rw [e1, hi]; exact run_indexArr hu hc.1 hb.1 hb.2)) ⟨A, hA, k0, fun _ => ⟨by omega, g, o', cp, e', hE, ?_⟩⟩⟩
            simp
          · cases h
        · cases h
      · cases h
    · cases h
  · rename_i n b off he hn hx
    obtain ⟨k, hi⟩ := ixOf_some hI hn
    have hr := relC_of hI hx
    split at h
    · rename_i m e hm
      have hu := arrE_some hm
      split at h
      · rename_i sz hsz
        split at h
        · rename_i hb
          obtain ⟨k1, e1⟩ := hr
          exact ⟨_, _, h, goes_pure hI (run_value (s := Instr.indexAt t (a.eval x) (a.eval i)) (by simp only [execOp, ho]) (by rw [e1, hi]; exact run_indexArr hu hsz hb.1 hb.2)) ⟨k1, rfl⟩⟩
        · cases h
      · cases h
    · cases h
  · cases h
end Go.Eng
end
