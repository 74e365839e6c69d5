/- The library's functions come to what the evaluator takes for them; a law's call returns true. -/
import Derived.Test.YtjkfpbfimcpoeaaGreatDoorEngD
import Derived.Test.YtjkfpbfimcpoeaaGreatDoorEquA
import Derived.Test.YtjkfpbfimcpoeaaGreatDoorEquB
import Derived.Laws.Externs
import Derived.Shelf.Spec.BitsCarry
import Derived.Shelf.Strings.SlTrimAscii
import Derived.Lib.FrozenHead
import Derived.Lib.UnsafeStr
import Derived.WalkKit
import Derived.RegionTactic
import Derived.OwnWalk
import Derived.Laws.AppendOwn
import Derived.Lib.Walk
import Derived.Lib.SliceRun
section
set_option linter.unusedSimpArgs false
set_option linter.unusedVariables false
namespace TryzE
open Go Go.Eng Go.Proofs
set_option linter.unusedVariables false
set_option maxRecDepth 100000
theorem argRel_one {w : World} {ok : Nat → Prop} {x : PA} {vs : List Value} {Ls : List (SL × Eng.Place)} (h : ArgRel w ok [.v x] vs Ls) : ∃ v, vs = [v] ∧ PlainA w ok x v ∧ Ls = [] := by
  rcases vs with _ | ⟨v, _ | ⟨u, r⟩⟩
  · exact h.elim
  · exact ⟨v, rfl, h.1, h.2⟩
  · exact h.2.elim
theorem argRel_two {w : World} {ok : Nat → Prop} {x y : PA} {vs : List Value} {Ls : List (SL × Eng.Place)} (h : ArgRel w ok [.v x, .v y] vs Ls) : ∃ v u, vs = [v, u] ∧ PlainA w ok x v ∧ PlainA w ok y u ∧ Ls = [] := by
  rcases vs with _ | ⟨v, _ | ⟨u, _ | ⟨t, r⟩⟩⟩
  · exact h.elim
  · exact h.2.elim
  · exact ⟨v, u, rfl, h.1, h.2.1, h.2.2⟩
  · exact h.2.2.elim
theorem argRel_three {w : World} {ok : Nat → Prop} {x y z : PA} {vs : List Value} {Ls : List (SL × Eng.Place)} (h : ArgRel w ok [.v x, .v y, .v z] vs Ls) : ∃ v u t, vs = [v, u, t] ∧ PlainA w ok x v ∧ PlainA w ok y u ∧ PlainA w ok z t ∧ Ls = [] := by
  rcases vs with _ | ⟨v, _ | ⟨u, _ | ⟨t, _ | ⟨q, r⟩⟩⟩⟩
  · exact h.elim
  · exact h.2.elim
  · exact h.2.2.elim
  · exact ⟨v, u, t, rfl, h.1, h.2.1, h.2.2.1, h.2.2.2⟩
  · exact h.2.2.2.elim
theorem u64ok_iff {x : Int} : u64ok x = true ↔ 0 ≤ x ∧ x < 18446744073709551616 := by simp [u64ok]
theorem bitLenN_lib : ∀ k n : Nat, bitLenN k n = Lib.bitLenAux k n
  | 0, _ => rfl
  | k + 1, n => by unfold bitLenN Lib.bitLenAux; rw [bitLenN_lib k (n / 2), Nat.add_comm]
theorem bitLenI_lib (x : Int) : bitLenI x = (Lib.bitLen x.toNat : Int) := by
  unfold bitLenI Lib.bitLen
  rw [bitLenN_lib]
theorem len64_ok : ∀ xs res, xLen64 xs = some res → CallOk Tryz.prog 170 xs res := by
  intro xs res h
  unfold xLen64 at h
  split at h
  · rename_i x
    split at h
    · rename_i hu
      injection h with h
      subst h
      obtain ⟨h0, h1⟩ := u64ok_iff.1 hu
      refine callOk_calls (fn := Tryz.f170) (c := Tryz.f170.body.get!) (by kernel_rfl) (by kernel_rfl) (by kernel_rfl) fun w ok vs Ls hpre => ?_
      obtain ⟨v, rfl, ⟨hv, -⟩, rfl⟩ := argRel_one hpre.args
      have hv : v = .int .u64 x := hv
      subst hv
      refine (Tryz.bits_Len64 x w h0 (by omega)).mono ?_
      rintro e w' ⟨rfl, rfl⟩
      have hr : RsRel w' ok w'.heap.size [] [.v (.c (.int .i64 (bitLenI x)))] [.int .i64 (Lib.bitLen x.toNat : Int)] := ⟨⟨congrArg (Value.int .i64) (bitLenI_lib x).symm, rfl⟩, trivial⟩
      exact ⟨_, rfl, ok, callPost_same hpre.lt (vs := [_]) rfl hr⟩
    · cases h
  · cases h
end TryzE
end
section
set_option linter.unusedSimpArgs false
set_option linter.unusedVariables false
namespace TryzE
open Go Go.Eng Go.Proofs Go.RowKit
set_option linter.unusedVariables false
set_option maxRecDepth 100000
theorem callOk_value {P : Program} {f : FuncId} {xs : List AA} {res : Res}
    (H : ∀ w ok vs Ls, CallPre w ok xs vs Ls → ∃ v w', (callFunc f vs.toArray).run P w = .ok (.value v) w' ∧ ∃ ok', CallPost w ok Ls res ok' v w') : CallOk P f xs res := by
  intro w ok vs Ls hpre
  obtain ⟨v, w', h1, h2⟩ := H w ok vs Ls hpre
  unfold Does
  rw [h1]
  exact h2
theorem callPost_below {w w' : World} {ok : Nat → Prop} {rs : List RA} {v : Value} {vs : List Value} (hlt : ∀ b, ok b → b < w.heap.size) (hb : Below w.heap.size w w') (hv : v = oneOf vs) (hr : RsRel w' ok w.heap.size [] rs vs) : CallPost w ok [] ⟨rs, []⟩ ok v w' where
  size := hb.size
  os := hb.os
  tape := hb.tape
  output := hb.output
  frame := fun b h _ => hb.block b h
  okold := fun _ h => .inl h
  oklt := fun b h => Nat.lt_of_lt_of_le (hlt b h) hb.size
  mu := ⟨rfl, fun j s p s' h => by simp at h⟩
  rs := ⟨vs, hv, hr⟩
theorem rs_int {w : World} {ok : Nat → Prop} {base : Nat} {seen : List Nat} {k : IntKind} {x y : Int} {rs : List RA} {vs : List Value} (h : x = y) (hr : RsRel w ok base seen rs vs) : RsRel w ok base seen (.v (.c (.int k x)) :: rs) (.int k y :: vs) :=
  ⟨⟨by subst h; rfl, rfl⟩, hr⟩
theorem rs_str {w : World} {ok : Nat → Prop} {base : Nat} {seen : List Nat} {x y : ByteArray} {rs : List RA} {vs : List Value} (h : x = y) (hr : RsRel w ok base seen rs vs) : RsRel w ok base seen (.v (.c (.str x)) :: rs) (.string y :: vs) :=
  ⟨⟨by subst h; rfl, rfl⟩, hr⟩
theorem rs_nil {w : World} {ok : Nat → Prop} {base : Nat} {seen : List Nat} : RsRel w ok base seen [] [] := trivial

theorem mul64_ok : ∀ xs res, xMul64 xs = some res → CallOk Tryz.prog 145 xs res := by
  intro xs res h
  unfold xMul64 at h
  split at h
  · rename_i x y
    split at h
    · rename_i hu
      injection h with h
      subst h
      simp only [Bool.and_eq_true, u64ok_iff] at hu
      obtain ⟨⟨a0, a1⟩, b0, b1⟩ := hu
      refine callOk_calls (fn := Tryz.f145) (c := Tryz.f145.body.get!) (by kernel_rfl) (by kernel_rfl) (by kernel_rfl) fun w ok vs Ls hpre => ?_
      obtain ⟨v, u, rfl, ⟨hv, -⟩, ⟨hu, -⟩, rfl⟩ := argRel_two hpre.args
      have hv : v = .int .u64 x := hv
      have hu : u = .int .u64 y := hu
      subst hv; subst hu
      obtain ⟨a, rfl⟩ := Int.eq_ofNat_of_zero_le a0
      obtain ⟨b, rfl⟩ := Int.eq_ofNat_of_zero_le b0
      refine (Tryz.bits_Mul64 a b (by omega) (by omega) w).mono ?_
      rintro e w' ⟨rfl, rfl⟩
      exact ⟨_, rfl, ok, callPost_same hpre.lt (vs := [_, _]) rfl (rs_int (by omega) (rs_int (by omega) rs_nil))⟩
    · cases h
  · cases h
theorem add64_ok : ∀ xs res, xAdd64 xs = some res → CallOk Tryz.prog 154 xs res := by
  intro xs res h
  unfold xAdd64 at h
  split at h
  · rename_i x y c
    split at h
    · rename_i hu
      injection h with h
      subst h
      simp only [Bool.and_eq_true, Bool.or_eq_true, decide_eq_true_eq, u64ok_iff] at hu
      obtain ⟨⟨⟨a0, a1⟩, b0, b1⟩, hc⟩ := hu
      refine callOk_value fun w ok vs Ls hpre => ?_
      obtain ⟨v, u, t, rfl, ⟨hv, -⟩, ⟨hu, -⟩, ⟨ht, -⟩, rfl⟩ := argRel_three hpre.args
      have hv : v = .int .u64 x := hv
      have hu : u = .int .u64 y := hu
      have ht : t = .int .u64 c := ht
      subst hv; subst hu; subst ht
      refine ⟨_, w, ?_, ok, callPost_same hpre.lt (vs := [_, _]) rfl (rs_int rfl (rs_int rfl rs_nil))⟩
      rw [run_callFunc_extern (fn := Tryz.f154) Tryz.func154 (by kernel_rfl) (by kernel_rfl) (by kernel_rfl) (e := add64Entry) (by kernel_rfl)]
      show (Sem.run Tryz.prog (add64Entry #[.int .u64 x, .int .u64 y, .int .u64 c]) w).andThen _ = _
      rw [run_add64 x y c (by omega) (by omega) (by omega) (by omega)]
      rfl
    · cases h
  · cases h
theorem sub64_ok : ∀ xs res, xSub64 xs = some res → CallOk Tryz.prog 159 xs res := by
  intro xs res h
  unfold xSub64 at h
  split at h
  · rename_i x y c
    split at h
    · rename_i hu
      injection h with h
      subst h
      simp only [Bool.and_eq_true, Bool.or_eq_true, decide_eq_true_eq, u64ok_iff] at hu
      obtain ⟨⟨⟨a0, a1⟩, b0, b1⟩, hc⟩ := hu
      refine callOk_value fun w ok vs Ls hpre => ?_
      obtain ⟨v, u, t, rfl, ⟨hv, -⟩, ⟨hu, -⟩, ⟨ht, -⟩, rfl⟩ := argRel_three hpre.args
      have hv : v = .int .u64 x := hv
      have hu : u = .int .u64 y := hu
      have ht : t = .int .u64 c := ht
      subst hv; subst hu; subst ht
      obtain ⟨x, rfl⟩ := Int.eq_ofNat_of_zero_le a0
      obtain ⟨y, rfl⟩ := Int.eq_ofNat_of_zero_le b0
      obtain ⟨c, rfl⟩ := Int.eq_ofNat_of_zero_le (show (0 : Int) ≤ c by omega)
      refine ⟨.tuple #[.int .u64 (((x + 18446744073709551616 - y - c) % 18446744073709551616 : Nat) : Int), .int .u64 ((if x < y + c then 1 else 0 : Nat) : Int)], w, ?_, ok, callPost_same hpre.lt (vs := [_, _]) rfl (rs_int ?_ (rs_int ?_ rs_nil))⟩
      · rw [run_callFunc_extern (fn := Tryz.f159) Tryz.func159 (by kernel_rfl) (by kernel_rfl) (by kernel_rfl) (e := sub64Entry) (by kernel_rfl)]
        show (Sem.run Tryz.prog (sub64Entry #[.int .u64 x, .int .u64 y, .int .u64 c]) w).andThen _ = _
        rw [run_sub64 x y c (by omega)]
        rfl
      · omega
      · split <;> omega
    · cases h
  · cases h
theorem repS_lib (s : ByteArray) : ∀ n, repS n s = ⟨(Lib.repeatL s.data.toList n).toArray⟩
  | 0 => rfl
  | n + 1 => by
    unfold repS Lib.repeatL
    rw [repS_lib s n]
    apply ByteArray.ext
    simp
theorem repeat_ok : ∀ xs res, xRepeat xs = some res → CallOk Tryz.prog 51 xs res := by
  intro xs res h
  unfold xRepeat at h
  split at h
  · rename_i s n
    split at h
    · rename_i hu
      injection h with h
      subst h
      simp only [Bool.and_eq_true, decide_eq_true_eq] at hu
      obtain ⟨⟨a0, a1⟩, a2⟩ := hu
      refine callOk_calls (fn := Tryz.f51) (c := Tryz.f51.body.get!) (by kernel_rfl) (by kernel_rfl) (by kernel_rfl) fun w ok vs Ls hpre => ?_
      obtain ⟨v, u, rfl, ⟨hv, -⟩, ⟨hu, -⟩, rfl⟩ := argRel_two hpre.args
      have hv : v = .string s := hv
      have hu : u = .int .i64 n := hu
      subst hv; subst hu
      obtain ⟨n, rfl⟩ := Int.eq_ofNat_of_zero_le a0
      have h1 : s.size * n ≤ 1048576 * 1048576 := Nat.mul_le_mul a2 (by omega)
      refine (Tryz.strings_Repeat s n w (by omega) (by omega)).mono ?_
      rintro e w' ⟨rfl, hb⟩
      exact ⟨_, rfl, ok, callPost_below hpre.lt hb (vs := [_]) rfl (rs_str (by rw [← repS_lib]; rfl) rs_nil)⟩
    · cases h
  · cases h
theorem trimL_eq (cut : List UInt8) : ∀ l, trimL cut l = l.dropWhile (cut.contains ·)
  | [] => rfl
  | b :: r => by
    unfold trimL
    rw [trimL_eq cut r, List.dropWhile_cons]
theorem trim_ok : ∀ xs res, xTrim xs = some res → CallOk Tryz.prog 93 xs res := by
  intro xs res h
  unfold xTrim at h
  split at h
  · rename_i s cut
    split at h
    · rename_i hu
      injection h with h
      subst h
      simp only [Bool.and_eq_true, decide_eq_true_eq] at hu
      obtain ⟨a0, a1, a2⟩ := hu
      refine callOk_calls (fn := Tryz.f93) (c := Tryz.f93.body.get!) (by kernel_rfl) (by kernel_rfl) (by kernel_rfl) fun w ok vs Ls hpre => ?_
      obtain ⟨v, u, rfl, ⟨hv, -⟩, ⟨hu, -⟩, rfl⟩ := argRel_two hpre.args
      have hv : v = .string s := hv
      have hu : u = .string cut := hu
      subst hv; subst hu
      refine (Any.strings_Trim_laid Tryz.lays160 (by kernel_rfl) s cut w (by omega) (by omega) (ascii_of_all a0)).mono ?_
      rintro e w' ⟨rfl, hb⟩
      exact ⟨_, rfl, ok, callPost_below hpre.lt hb (vs := [_]) rfl (rs_str (by unfold trimS Lib.trimS Lib.trimLeftS Lib.trimRightS; rw [trimL_eq, trimL_eq]) rs_nil)⟩
    · cases h
  · cases h
end TryzE
end
section
set_option linter.unusedSimpArgs false
set_option linter.unusedVariables false
namespace TryzE
open Go Go.Eng Go.Proofs Go.RowKit Go.Lib
set_option linter.unusedVariables false
set_option maxRecDepth 100000
/-- Where 'append' of a text to a row of bytes leaves the row: where it was, or in a new block. -/
theorem app_block {P : Program} {w : World} {t u ty e : TypeId} {i : TypeInfo} (ht : P.underlying t = some (.slice e)) (hu : P.underlying u = some .string) (hi : P.info? e = some i) (hz : i.zero = some (.int .u8 0))
    (hsize : i.size = 1) (hby : i.bytes = 1) {v : Value} {n : Nat} {xs : List Value} (hown : w.ownsRowF 0 e 1 v n xs) (s : ByteArray) (hb : n + s.size ≤ 140737488355328) :
    ∃ v' w', (Builtin.append_ #[t, u] ty #[v, .string s]).run P w = .ok v' w' ∧ w'.ownsRowF 0 e 1 v' (n + s.size) (xs ++ strCells s) ∧ w.grownBy w' v.ownBlock ∧
      (v'.ownBlock = v.ownBlock ∨ ∀ g, v'.ownBlock = some g → w.heap.size ≤ g) := by
  have h63 : n + s.size ≤ maxLen := by unfold maxLen; omega
  by_cases hv : v = .slice none 0 0 ∧ n = 0
  · obtain ⟨rfl, rfl⟩ := hv
    obtain ⟨v', w', h1, h2, h3, _⟩ := run_append_own_stringF (P := P) w w.heap.size t u ty e i ht hu hi hz hsize hby (.slice none 0 0) 0 xs ⟨hown.1, .inl ⟨rfl, rfl⟩⟩ s h63 hb (Nat.le_refl _)
    refine ⟨v', w', h1, ⟨h2.1, ?_⟩, h3, .inr fun g hg => (h2.lt g hg).1⟩
    rcases h2.2 with hn | ⟨g, cap, cur, fz, hv, _, r⟩
    · exact .inl hn
    · exact .inr ⟨g, cap, cur, fz, hv, Nat.zero_le _, r⟩
  · obtain ⟨v', w', h1, h2, h3, _⟩ := run_append_own_stringF (P := P) w 0 t u ty e i ht hu hi hz hsize hby v n xs hown s h63 hb (Nat.zero_le _)
    refine ⟨v', w', h1, h2, h3, ?_⟩
    rcases hown.2 with hn | ⟨g, cap, cur, fz, rfl, hbg, hg, hfz, hnc, hcm, hcs, htake⟩
    · exact absurd hn hv
    · by_cases hroom : n + s.size ≤ cap
      · have hr := run_append_room_stringF (P := P) w t u ty e i ht hu hi hsize g n cap cur fz hg (by simpa using hfz) s hroom (by omega)
        rw [h1] at hr
        injection hr with e1 e2
        subst e1
        exact .inl rfl
      · have hxl : xs.length = n := by simpa using hown.1
        have hr := run_append_grow_string (P := P) w t u ty e i (.int .u8 0) ht hu hi hz ⟨g, 0, none⟩ n cap xs (by rw [hsize]; simpa using hxl) (hown.cells (g := g) rfl) s (by omega) (by omega) (by rw [hby]; exact growslice_fits (by omega) (by omega))
        rw [h1] at hr
        injection hr with e1 e2
        subst e1
        exact .inr fun g' hg' => by simp [Value.ownBlock] at hg'; omega
theorem copyCheck_fresh (b : Nat) (w : World) (h0 : w.cell? ⟨b, 0, none⟩ = some (.pointer none)) (hsh : w.shape? b = some (146, 2)) (hfz : w.frozen? ⟨b, 0, none⟩ = false) :
    Calls Tryz.prog 147 #[.pointer (some ⟨b, 0, none⟩)] w fun e w' => e = .returned (.tuple #[]) ∧ w' = w.setCell ⟨b, 0, none⟩ (.pointer (some ⟨b, 0, none⟩)) :=
  Any.Builder_copyCheck_fresh { Tryz.lays105 with } Tryz.Builder_Extra_105.toX72 b w h0 hsh hfz
theorem copyCheck_used (b : Nat) (w : World) (h0 : w.cell? ⟨b, 0, none⟩ = some (.pointer (some ⟨b, 0, none⟩))) :
    Calls Tryz.prog 147 #[.pointer (some ⟨b, 0, none⟩)] w fun e w' => e = .returned (.tuple #[]) ∧ w' = w :=
  Any.Builder_copyCheck_used { Tryz.lays105 with } Tryz.Builder_Extra_105.toX72 b w h0
/-- What copyCheck leaves: the builder's own address in it, nothing else. -/
theorem copyCheck (b : Nat) (p v : Value) (w : World) (hp : p = .pointer none ∨ p = .pointer (some ⟨b, 0, none⟩)) (hb : w.heap[b]? = some (.cells #[p, v] 146 (0, 0))) :
    Calls Tryz.prog 147 #[.pointer (some ⟨b, 0, none⟩)] w fun e w' => e = .returned (.tuple #[]) ∧ w'.heap[b]? = some (.cells #[.pointer (some ⟨b, 0, none⟩), v] 146 (0, 0)) ∧ w'.heap.size = w.heap.size ∧ w'.os = w.os ∧ w'.tape = w.tape ∧ w'.output = w.output ∧ ∀ k, k ≠ b → w'.heap[k]? = w.heap[k]? := by
  rcases hp with rfl | rfl
  · refine (copyCheck_fresh b w (by simp [World.cell?, hb]) (by simp [World.shape?, hb]) (by simp [World.frozen?, hb])).mono ?_
    rintro e w' ⟨rfl, rfl⟩
    exact ⟨rfl, by simp [World.setCell, Array.getElem?_modify, hb], by simp [World.setCell], rfl, rfl, rfl, fun k hk => Below.heap_setCell _ _ _ _ (fun e => hk (by simp [e]))⟩
  · refine (copyCheck_used b w (by simp [World.cell?, hb])).mono ?_
    rintro e w' ⟨rfl, rfl⟩
    exact ⟨rfl, hb, rfl, rfl, rfl, rfl, fun _ _ => rfl⟩
theorem wpList_app_block {P : Program} {w : World} {ops : Array Oper} {rest : List Oper} {o : Oper} {a : Act} {Q : Exit → Act → World → Prop} (hgd : o.guard = none) (sl x : Operand) (t u : TypeId)
    (ho : o.op = .call { callee := .builtin .append, args := #[sl, x], argTypes := #[t, u] }) (e : TypeId) (i : TypeInfo) (ht : P.underlying t = some (.slice e)) (hu : P.underlying u = some .string) (hi : P.info? e = some i) (hz : i.zero = some (.int .u8 0))
    (hsize : i.size = 1) (hby : i.bytes = 1) (v : Value) (n : Nat) (xs : List Value) (hs : a.eval sl = v) (hown : w.ownsRowF 0 e 1 v n xs) (s : ByteArray) (hx : a.eval x = .string s) (hb : n + s.size ≤ 140737488355328)
    (h : ∀ v' w', w'.ownsRowF 0 e 1 v' (n + s.size) (xs ++ strCells s) → w.grownBy w' v.ownBlock → (v'.ownBlock = v.ownBlock ∨ ∀ g, v'.ownBlock = some g → w.heap.size ≤ g) → wpList P ops Q rest (a.put o.dst v') w') : wpList P ops Q (o :: rest) a w := by
  refine wpList_plain hgd fun K hK => ?_
  obtain ⟨v', w', hr, h2, h3, h4⟩ := app_block (P := P) (w := w) (ty := o.type) ht hu hi hz hsize hby hown s hb
  unfold Oper.wp execOp
  simp only [ho, resolve, invoke, builtin, Sem.run_bind, Sem.run_pure, Result.andThen_ok, List.map_toArray, List.map_cons, List.map_nil, hs, hx, hr]
  exact hK _ _ (h v' w' h2 h3 h4)
set_option maxHeartbeats 2000000 in
/-- WriteString, with all that it leaves alone. -/
theorem write_walk (b : Nat) (p v : Value) (bs : List Value) (s : ByteArray) (w : World) (hp : p = .pointer none ∨ p = .pointer (some ⟨b, 0, none⟩)) (hb : w.heap[b]? = some (.cells #[p, v] 146 (0, 0)))
    (hown : w.ownsRowF 0 5 1 v bs.length bs) (hlen : bs.length + s.size ≤ 140737488355328) :
    Calls Tryz.prog 102 #[.pointer (some ⟨b, 0, none⟩), .string s] w fun e w' => e = .returned (.tuple #[.int .i64 s.size, .nilIface]) ∧
      ∃ v', w'.heap[b]? = some (.cells #[.pointer (some ⟨b, 0, none⟩), v'] 146 (0, 0)) ∧ w'.ownsRowF 0 5 1 v' (bs.length + s.size) (bs ++ strCells s) ∧ w.heap.size ≤ w'.heap.size ∧ w'.os = w.os ∧ w'.tape = w.tape ∧ w'.output = w.output ∧
        (v'.ownBlock = v.ownBlock ∨ ∀ g, v'.ownBlock = some g → w.heap.size ≤ g) ∧ ∀ k, k < w.heap.size → k ≠ b → v.ownBlock ≠ some k → w'.heap[k]? = w.heap[k]? := by
  have hne : v.ownBlock ≠ some b := ownBlock_neF hown hb (by decide)
  obtain ⟨i0, hi, hz0, hz1, hz2⟩ := info_parts Tryz.Builder_Extra_105.infoByte
  go_enter Tryz.func102, Tryz.ntmps102
  go_wp2_with (refine (copyCheck b p v _ hp hb).mono ?_)
  rintro e w1 ⟨rfl, hb1, q1, q2, q3, q4, q5⟩
  have hown1 : w1.ownsRowF 0 5 1 v bs.length bs := hown.kept (row := some b) ⟨q2, q3, q4, by omega, fun k _ hk => q5 k (fun e => hk (by rw [e]))⟩ (.inr hne)
  have c0 : w1.cell? ⟨b, 0, none⟩ = some (.pointer (some ⟨b, 0, none⟩)) := by rw [Lib.cell_of_heap hb1]; rfl
  have c1 : w1.cell? ⟨b, 1, none⟩ = some v := by rw [Lib.cell_of_heap hb1]; rfl
  go_wp2_with (at_builtin; refine wpList_app_block rfl _ _ 144 9 rfl 5 i0 Tryz.underlying144 Tryz.underlying9 hi hz0 hz1 hz2 _ _ _ rfl hown1 s rfl hlen ?_)
  intro v' w2 hown' hgrow hblk
  have hlt : b < w1.heap.size := by
    rcases Nat.lt_or_ge b w1.heap.size with h' | h'
    · exact h'
    · simp [Array.getElem?_eq_none h'] at hb1
  have hb2 : w2.heap[b]? = some (.cells #[.pointer (some ⟨b, 0, none⟩), v] 146 (0, 0)) := (hgrow.block b hlt (fun e => hne e.symm)).trans hb1
  have d0 : w2.cell? ⟨b, 0, none⟩ = some (.pointer (some ⟨b, 0, none⟩)) := by rw [Lib.cell_of_heap hb2]; rfl
  have d1 : w2.cell? ⟨b, 1, none⟩ = some v := by rw [Lib.cell_of_heap hb2]; rfl
  have f1 : w2.frozen? ⟨b, 1, none⟩ = false := Lib.frozen_of_heap hb2 1
  have hne' : v'.ownBlock ≠ some b := ownBlock_neF hown' hb2 (by decide)
  have hown3 : (w2.setCell ⟨b, 1, none⟩ v').ownsRowF 0 5 1 v' (bs.length + s.size) (bs ++ strCells s) :=
    hown'.kept (row := some b) ⟨rfl, rfl, rfl, by simp [World.setCell], fun k _ hk => Below.heap_setCell _ _ _ _ (fun e => hk (by simp [e]))⟩ (.inr hne')
  have hb3 : (w2.setCell ⟨b, 1, none⟩ v').heap[b]? = some (.cells #[.pointer (some ⟨b, 0, none⟩), v'] 146 (0, 0)) := by simp [World.setCell, Array.getElem?_modify, hb2]
  have hfin : ∃ v'', (w2.setCell ⟨b, 1, none⟩ v').heap[b]? = some (.cells #[.pointer (some ⟨b, 0, none⟩), v''] 146 (0, 0)) ∧ (w2.setCell ⟨b, 1, none⟩ v').ownsRowF 0 5 1 v'' (bs.length + s.size) (bs ++ strCells s) ∧ w.heap.size ≤ (w2.setCell ⟨b, 1, none⟩ v').heap.size ∧ (w2.setCell ⟨b, 1, none⟩ v').os = w.os ∧ (w2.setCell ⟨b, 1, none⟩ v').tape = w.tape ∧ (w2.setCell ⟨b, 1, none⟩ v').output = w.output ∧
        (v''.ownBlock = v.ownBlock ∨ ∀ g, v''.ownBlock = some g → w.heap.size ≤ g) ∧ ∀ k, k < w.heap.size → k ≠ b → v.ownBlock ≠ some k → (w2.setCell ⟨b, 1, none⟩ v').heap[k]? = w.heap[k]? := by
    have hsz := hgrow.size
    refine ⟨v', hb3, hown3, by simp [World.setCell]; omega, hgrow.os.trans q2, hgrow.tape.trans q3, hgrow.output.trans q4, hblk.imp id (fun h g hg => by have := h g hg; omega), fun k hk hkb hkv => ?_⟩
    rw [Below.heap_setCell _ _ _ _ (fun e => hkb (by simp [e])), hgrow.block k (by omega) (fun e => hkv e.symm)]
    exact q5 k hkb
  obtain ⟨ao, n', cap, rfl⟩ : ∃ ao n' cap, v' = .slice ao n' cap := by
    rcases hown'.2 with ⟨hv, _⟩ | ⟨g, cap, cur, fz, hv, _⟩
    · exact ⟨_, _, _, hv⟩
    · exact ⟨_, _, _, hv⟩
  clear hown3 hb3 hown' hgrow hblk hb1 hb hown hown1
  go_wp2
  go_ret2
  exact ⟨rfl, hfin⟩
end TryzE
end
section
set_option linter.unusedSimpArgs false
set_option linter.unusedVariables false
namespace TryzE
open Go Go.Eng Go.Proofs Go.RowKit Go.Lib
set_option linter.unusedVariables false
set_option maxRecDepth 100000
/-- What String leaves. -/
def StrPost (b : Nat) (p v : Value) (l : List UInt8) (w w' : World) : Prop :=
  w'.heap[b]? = some (.cells #[p, v] 146 (0, 0)) ∧ w'.ownsRowF 0 5 1 v l.length (byteCells l) ∧ w.heap.size ≤ w'.heap.size ∧ w'.os = w.os ∧ w'.tape = w.tape ∧ w'.output = w.output ∧ ∀ k, k < w.heap.size → v.ownBlock ≠ some k → w'.heap[k]? = w.heap[k]?
theorem heap_lt {w : World} {b : Nat} {o : Obj} (h : w.heap[b]? = some o) : b < w.heap.size := by
  rcases Nat.lt_or_ge b w.heap.size with h' | h'
  · exact h'
  · simp [Array.getElem?_eq_none h'] at h
theorem strPost_same {b : Nat} {p v : Value} {l : List UInt8} {w w' : World} (hb : w.heap[b]? = some (.cells #[p, v] 146 (0, 0))) (hown : w.ownsRowF 0 5 1 v l.length (byteCells l)) (hh : w'.heap = w.heap) (h1 : w'.os = w.os) (h2 : w'.tape = w.tape) (h3 : w'.output = w.output) : StrPost b p v l w w' := by
  refine ⟨by rw [hh]; exact hb, ⟨hown.1, ?_⟩, by rw [hh]; exact Nat.le_refl _, h1, h2, h3, fun k _ _ => by rw [hh]⟩
  rcases hown.2 with hn | ⟨g, cap, cur, fz, hv, hg, hgg, r⟩
  · exact .inl hn
  · exact .inr ⟨g, cap, cur, fz, hv, hg, by rw [hh]; exact hgg, r⟩
theorem strPost_alloc {b : Nat} {p v : Value} {l : List UInt8} {w : World} (hb : w.heap[b]? = some (.cells #[p, v] 146 (0, 0))) (hown : w.ownsRowF 0 5 1 v l.length (byteCells l)) (o : Obj) : StrPost b p v l w (w.drew.alloc o) := by
  refine ⟨(alloc_old w.drew o b (heap_lt hb)).trans hb, ?_, by simp [World.alloc], rfl, rfl, rfl, fun k hk _ => alloc_old w.drew o k hk⟩
  have h1 : w.drew.ownsRowF 0 5 1 v l.length (byteCells l) := hown
  exact h1.kept (World.grownBy_alloc w.drew o none) (by cases hv : v.ownBlock <;> simp)
theorem strPost_froze {b g cap : Nat} {p : Value} {l : List UInt8} {w : World} (hb : w.heap[b]? = some (.cells #[p, .slice (some ⟨g, 0, none⟩) l.length cap] 146 (0, 0))) (hown : w.ownsRowF 0 5 1 (.slice (some ⟨g, 0, none⟩) l.length cap) l.length (byteCells l)) : StrPost b p (.slice (some ⟨g, 0, none⟩) l.length cap) l w (w.drew.freeze ⟨g, 0, none⟩ l.length) := by
  have hne : (Value.slice (some ⟨g, 0, none⟩) l.length cap).ownBlock ≠ some b := ownBlock_neF hown hb (by decide)
  have hA : BuilderAtF 146 5 0 b p (byteCells l) w.drew := ⟨Nat.zero_le _, _, hb, by rw [Lib.byteCells_length]; exact hown, hne⟩
  have hF := hA.froze (g := g) (cap := cap) (by rw [Lib.byteCells_length]; rw [cell_of_heap (show w.drew.heap[b]? = _ from hb)]; rfl)
  rw [Lib.byteCells_length] at hF
  obtain ⟨_, v', hb', hown', _⟩ := hF
  have hgb : g ≠ b := fun e => hne (by simp [Value.ownBlock, e])
  have hfr : ∀ k, k ≠ g → (w.drew.freeze ⟨g, 0, none⟩ l.length).heap[k]? = w.heap[k]? := by
    intro k hk
    unfold World.freeze
    split
    · rfl
    · simp only [Array.getElem?_modify]
      rw [if_neg (fun e => hk e.symm)]
      rfl
  have hb2 := (hfr b (fun e => hgb e.symm)).trans hb
  rw [hb'] at hb2
  injection hb2 with hb2
  injection hb2 with hb2
  have hv : v' = .slice (some ⟨g, 0, none⟩) l.length cap := by simpa using hb2
  subst hv
  rw [Lib.byteCells_length] at hown'
  refine ⟨hb', hown', ?_, ?_, ?_, ?_, fun k _ hk => hfr k (fun e => hk (by simp [Value.ownBlock, e]))⟩
  all_goals unfold World.freeze; split <;> first | rfl | exact Nat.le_refl _ | simp
theorem usNone (W : World) (q : Option Addr) : (Builtin.unsafeString_ #[186, 3] 9 #[.pointer q, .int .i64 0]).run Tryz.prog W = .ok (.string .empty) W := Lib.run_unsafeString_none W _ _ _ q
set_option maxHeartbeats 2000000 in
theorem string_full (b : Nat) (p : Value) (l : List UInt8) (h0 : l ≠ []) (g cap : Nat) (w : World) (hb : w.heap[b]? = some (.cells #[p, .slice (some ⟨g, 0, none⟩) l.length cap] 146 (0, 0))) (hown : w.ownsRowF 0 5 1 (.slice (some ⟨g, 0, none⟩) l.length cap) l.length (byteCells l)) :
    Calls Tryz.prog 104 #[.pointer (some ⟨b, 0, none⟩)] w fun e w' => e = .returned (.string ⟨l.toArray⟩) ∧ StrPost b p (.slice (some ⟨g, 0, none⟩) l.length cap) l w w' := by
  have hl0 : l.length ≠ 0 := by simpa using h0
  have hfin := strPost_froze hb hown
  obtain ⟨cur, fz, hg, hfz, hnc, hcm, hcs, htake⟩ : ∃ cur fz, w.heap[g]? = some (.cells cur 5 fz) ∧ fz.2 ≤ l.length * 1 ∧ l.length ≤ cap ∧ cap ≤ maxLen ∧ cur.size = cap * 1 ∧ cur.toList.take (l.length * 1) = byteCells l := by
    rcases hown.2 with ⟨_, hz⟩ | ⟨g', cap', cur, fz, hv, _, r⟩
    · exact absurd hz hl0
    · injection hv with e1 e2 e3
      injection e1 with e1
      injection e1 with e1
      subst e1; subst e3
      exact ⟨cur, fz, r⟩
  have c1 : w.drew.cell? ⟨b, 1, none⟩ = some (.slice (some ⟨g, 0, none⟩) l.length cap) := by
    rw [Lib.cell_of_heap (show w.drew.heap[b]? = _ from hb)]; rfl
  have hSD : (Builtin.unsafeSliceData_ #[144] 186 #[.slice (some ⟨g, 0, none⟩) l.length cap]).run Tryz.prog w.drew = .ok (.pointer (some ⟨g, 0, none⟩)) w.drew :=
    Lib.run_unsafeSliceData_row _ _ _ _ _ _ (by omega)
  have hUS : (Builtin.unsafeString_ #[186, 3] 9 #[.pointer (some ⟨g, 0, none⟩), .int .i64 l.length]).run Tryz.prog w.drew = .ok (.string ⟨l.toArray⟩) (w.drew.freeze ⟨g, 0, none⟩ l.length) := by
    refine Lib.run_unsafeString_row w.drew 186 3 9 5 (by kernel_rfl) (by kernel_rfl) g cur.size (by have hg' : w.drew.heap[g]? = some (.cells cur 5 fz) := hg; simp [World.shape?, hg']) l h0 (by omega) (by unfold maxLen at hcm; omega) ?_
    intro j x hx
    exact hown.cells (g := g) rfl j (.int .u8 x.toNat) (by simp [Lib.byteCells, hx])
  clear hown hb hg
  go_enter Tryz.func104, Tryz.ntmps104
  go_wp2
  go_region
  all_goals (go_wp2; go_ret; exact ⟨rfl, hfin⟩)
set_option maxHeartbeats 2000000 in
theorem string_nil (b : Nat) (p : Value) (w : World) (hb : w.heap[b]? = some (.cells #[p, .slice none 0 0] 146 (0, 0))) (hown : w.ownsRowF 0 5 1 (.slice none 0 0) 0 (Lib.byteCells [])) :
    Calls Tryz.prog 104 #[.pointer (some ⟨b, 0, none⟩)] w fun e w' => e = .returned (.string ⟨#[]⟩) ∧ StrPost b p (.slice none 0 0) [] w w' := by
  have hUS := usNone
  have c1 : w.drew.cell? ⟨b, 1, none⟩ = some (.slice none 0 0) := by
    rw [Lib.cell_of_heap (show w.drew.heap[b]? = _ from hb)]; rfl
  have hSD : (Builtin.unsafeSliceData_ #[144] 186 #[.slice none 0 0]).run Tryz.prog w.drew = .ok (.pointer none) w.drew := rfl
  have hfin : StrPost b p (.slice none 0 0) [] w w.drew := strPost_same hb hown rfl rfl rfl rfl
  clear hown hb
  go_enter Tryz.func104, Tryz.ntmps104
  go_wp2
  go_region
  all_goals (go_wp2; go_ret; exact ⟨rfl, hfin⟩)
set_option maxHeartbeats 2000000 in
theorem string_noroom (b g : Nat) (p : Value) (cur : Array Value) (fz : Nat × Nat) (w : World) (hb : w.heap[b]? = some (.cells #[p, .slice (some ⟨g, 0, none⟩) 0 0] 146 (0, 0))) (hg : w.heap[g]? = some (.cells cur 5 fz)) (hown : w.ownsRowF 0 5 1 (.slice (some ⟨g, 0, none⟩) 0 0) 0 (Lib.byteCells [])) :
    Calls Tryz.prog 104 #[.pointer (some ⟨b, 0, none⟩)] w fun e w' => e = .returned (.string ⟨#[]⟩) ∧ StrPost b p (.slice (some ⟨g, 0, none⟩) 0 0) [] w w' := by
  have hUS := usNone
  have c1 : w.drew.cell? ⟨b, 1, none⟩ = some (.slice (some ⟨g, 0, none⟩) 0 0) := by
    rw [Lib.cell_of_heap (show w.drew.heap[b]? = _ from hb)]; rfl
  have hSD : (Builtin.unsafeSliceData_ #[144] 186 #[.slice (some ⟨g, 0, none⟩) 0 0]).run Tryz.prog w.drew = .ok (.pointer (some ⟨w.drew.heap.size, 0, none⟩)) (w.drew.alloc (.view ⟨g, 0, none⟩ 5)) :=
    Lib.run_unsafeSliceData_zero w.drew _ _ 5 (by kernel_rfl) ⟨g, 0, none⟩ 0 (5, cur.size) (by have hg' : w.drew.heap[g]? = some (.cells cur 5 fz) := hg; simp [World.shape?, hg'])
  have c2 : (w.drew.alloc (.view ⟨g, 0, none⟩ 5)).cell? ⟨b, 1, none⟩ = some (.slice (some ⟨g, 0, none⟩) 0 0) := by
    rw [Lib.cell_of_heap ((Lib.alloc_old w.drew _ b (heap_lt hb)).trans hb)]; rfl
  have c3 : (w.alloc (.view ⟨g, 0, none⟩ 5)).drew.cell? ⟨b, 1, none⟩ = some (.slice (some ⟨g, 0, none⟩) 0 0) := c2
  have c0 : w.cell? ⟨b, 1, none⟩ = some (.slice (some ⟨g, 0, none⟩) 0 0) := c1
  have hfin := strPost_alloc (l := []) hb hown (.view ⟨g, 0, none⟩ 5)
  clear hown hb hg
  go_enter Tryz.func104, Tryz.ntmps104
  go_wp2
  go_region
  all_goals (go_wp2; go_ret; exact ⟨rfl, hfin⟩)
set_option maxHeartbeats 2000000 in
theorem string_room (b g cap : Nat) (hc0 : cap ≠ 0) (p : Value) (w : World) (hb : w.heap[b]? = some (.cells #[p, .slice (some ⟨g, 0, none⟩) 0 cap] 146 (0, 0))) (hown : w.ownsRowF 0 5 1 (.slice (some ⟨g, 0, none⟩) 0 cap) 0 (Lib.byteCells [])) :
    Calls Tryz.prog 104 #[.pointer (some ⟨b, 0, none⟩)] w fun e w' => e = .returned (.string ⟨#[]⟩) ∧ StrPost b p (.slice (some ⟨g, 0, none⟩) 0 cap) [] w w' := by
  have hUS := usNone
  have c1 : w.drew.cell? ⟨b, 1, none⟩ = some (.slice (some ⟨g, 0, none⟩) 0 cap) := by
    rw [Lib.cell_of_heap (show w.drew.heap[b]? = _ from hb)]; rfl
  have hSD : (Builtin.unsafeSliceData_ #[144] 186 #[.slice (some ⟨g, 0, none⟩) 0 cap]).run Tryz.prog w.drew = .ok (.pointer (some ⟨g, 0, none⟩)) w.drew :=
    Lib.run_unsafeSliceData_row _ _ _ _ _ _ hc0
  have hfin : StrPost b p (.slice (some ⟨g, 0, none⟩) 0 cap) [] w w.drew := strPost_same hb hown rfl rfl rfl rfl
  clear hown hb hc0
  go_enter Tryz.func104, Tryz.ntmps104
  go_wp2
  go_region
  all_goals (go_wp2; go_ret; exact ⟨rfl, hfin⟩)
theorem string_walk (b : Nat) (p v : Value) (l : List UInt8) (w : World) (hb : w.heap[b]? = some (.cells #[p, v] 146 (0, 0))) (hown : w.ownsRowF 0 5 1 v l.length (Lib.byteCells l)) :
    Calls Tryz.prog 104 #[.pointer (some ⟨b, 0, none⟩)] w fun e w' => e = .returned (.string ⟨l.toArray⟩) ∧ StrPost b p v l w w' := by
  rcases hown.2 with ⟨rfl, h0⟩ | ⟨g, cap, cur, fz, rfl, _, hg, _, _, _, _, _⟩
  · obtain rfl := List.eq_nil_of_length_eq_zero h0
    exact string_nil b p w hb hown
  · cases l with
    | nil =>
      by_cases hc0 : cap = 0
      · subst hc0
        exact string_noroom b g p cur fz w hb hg hown
      · exact string_room b g cap hc0 p w hb hown
    | cons x r => exact string_full b p (x :: r) (by simp) g cap w hb hown
/-! ## The two functions, as the evaluator has them -/
theorem plainAs_one {w : World} {ok : Nat → Prop} {x : PA} {vs : List Value} (h : PlainAs w ok [x] vs) : ∃ v, vs = [v] ∧ PlainA w ok x v := by
  rcases vs with _ | ⟨v, _ | ⟨u, r⟩⟩
  · exact h.elim
  · exact ⟨v, rfl, h.1⟩
  · exact h.2.elim
theorem plainAs_none {w : World} {ok : Nat → Prop} {vs : List Value} (h : PlainAs w ok [] vs) : vs = [] := by
  cases vs with
  | nil => rfl
  | cons _ _ => exact h.elim
theorem does_calls {f : FuncId} {fn : Func} {c : Code} {args : Array Value} {w : World} {R : Value → World → Prop} (hf : Tryz.prog.funcs[f]? = some fn) (hname : (fn.name == "runtime.NumGoroutine") = false) (hb : fn.body = some c)
    (H : Calls Tryz.prog f args w fun e w' => ∃ v, e = .returned v ∧ R v w') : Does Tryz.prog f args w R := by
  unfold Does
  rw [run_enter hf hname hb]
  refine H.mono ?_
  rintro e w' ⟨v, rfl, h⟩
  exact h
theorem ownBlock_of {v : Value} {k : Nat} (h : k ∈ v.ownBlock.toList) : v.ownBlock = some k := by simpa using h
theorem write_ok : ObCallOk Tryz.prog 102 (bldWrite 146 5) := by
  intro w ok oo xs vs r hlt hf hrok hp ho
  unfold bldWrite at hf
  split at hf
  · rename_i T e s x hoo
    split at hf
    · rename_i hTe
      injection hf with hf
      subst hf
      simp only [Bool.and_eq_true, Nat.beq_eq] at hTe
      obtain ⟨rfl, rfl⟩ := hTe
      simp only [decide_eq_true_eq] at hrok
      obtain ⟨v, rfl, hv, -⟩ := plainAs_one hp
      have hv : v = .string x := hv
      subst hv
      obtain ⟨⟨o, m, fs⟩, rfl, ho'⟩ := Option.map_eq_some_iff.1 hoo
      have ho' : o = .bld 146 5 s := ho'
      subst ho'
      obtain ⟨⟨hT, p, v, hpp, hm, hmf, hown, hfs⟩, hk⟩ := ho _ m fs rfl
      refine does_calls (fn := Tryz.f102) (c := Tryz.f102.body.get!) (by kernel_rfl) (by kernel_rfl) (by kernel_rfl) ?_
      have hl : (Lib.byteCells s.data.toList).length = s.size := by rw [Lib.byteCells_length, Array.length_toList]; rfl
      have hown' : w.ownsRowF 0 5 1 v (Lib.byteCells s.data.toList).length (Lib.byteCells s.data.toList) := by rw [Lib.byteCells_length]; exact hown
      refine (write_walk m p v (Lib.byteCells s.data.toList) x w hpp hm hown' (by omega)).mono ?_
      rintro e w' ⟨rfl, v', h1, h2, h3, h4, h5, h6, h7, h8⟩
      have hne' : v'.ownBlock ≠ some m := ownBlock_neF h2 h1 (by decide)
      refine ⟨_, rfl, ok, {
        size := h3, os := h4, tape := h5, output := h6
        frame := fun k hk0 hno => h8 k hk0 (hno _ m fs rfl).1 (fun e => (hno _ m fs rfl).2 (by rw [hfs]; simp [e]))
        okmono := fun _ h => h
        oknew := fun _ h => .inl h
        rs := ⟨v'.ownBlock.toList, ⟨⟨hT, _, v', .inr rfl, h1, fun h => hne' (ownBlock_of h), ?_, rfl⟩, fun k hkk => ?_⟩, [.int .i64 x.size, .nilIface], rfl, ⟨⟨rfl, rfl⟩, ⟨rfl, rfl⟩, trivial⟩⟩ }⟩
      · have : (s ++ x).data.toList.length = (Lib.byteCells s.data.toList).length + x.size := by rw [hl]; simp
        rw [this]
        have e2 : Lib.byteCells (s ++ x).data.toList = Lib.byteCells s.data.toList ++ strCells x := by rw [strCells_eq, ← Lib.byteCells_append]; simp
        rw [e2]
        exact h2
      · have hkk := ownBlock_of hkk
        have hlt2 := (h2.lt k hkk).2
        rcases h7 with h7 | h7
        · have : k ∈ fs := by rw [hfs, ← h7]; simp [hkk]
          exact ⟨.inl this, hlt2, (hk k (.inr this)).1⟩
        · exact ⟨.inr (h7 k hkk), hlt2, fun hh => by have := hlt k hh; have := h7 k hkk; omega⟩
    · cases hf
  · cases hf
theorem string_ok : ObCallOk Tryz.prog 104 (bldString 146 5) := by
  intro w ok oo xs vs r hlt hf hrok hp ho
  unfold bldString at hf
  split at hf
  · rename_i T e s hoo
    split at hf
    · rename_i hTe
      injection hf with hf
      subst hf
      simp only [Bool.and_eq_true, Nat.beq_eq] at hTe
      obtain ⟨rfl, rfl⟩ := hTe
      obtain rfl := plainAs_none hp
      obtain ⟨⟨o, m, fs⟩, rfl, ho'⟩ := Option.map_eq_some_iff.1 hoo
      have ho' : o = .bld 146 5 s := ho'
      subst ho'
      obtain ⟨⟨hT, p, v, hpp, hm, hmf, hown, hfs⟩, hk⟩ := ho _ m fs rfl
      refine does_calls (fn := Tryz.f104) (c := Tryz.f104.body.get!) (by kernel_rfl) (by kernel_rfl) (by kernel_rfl) ?_
      refine (string_walk m p v s.data.toList w hm hown).mono ?_
      rintro e w' ⟨rfl, h1, h2, h3, h4, h5, h6, h8⟩
      refine ⟨_, rfl, ok, {
        size := h3, os := h4, tape := h5, output := h6
        frame := fun k hk0 hno => h8 k hk0 (fun e => (hno _ m fs rfl).2 (by rw [hfs]; simp [e]))
        okmono := fun _ h => h
        oknew := fun _ h => .inl h
        rs := ⟨fs, ⟨⟨hT, p, v, hpp, h1, hmf, h2, hfs⟩, fun k hkk => ?_⟩, [.string s], rfl, ⟨⟨rfl, rfl⟩, trivial⟩⟩ }⟩
      exact ⟨.inl hkk, Nat.lt_of_lt_of_le (hk k (.inr hkk)).2 h3, (hk k (.inr hkk)).1⟩
    · cases hf
  · cases hf
end TryzE
end
section
set_option linter.unusedSimpArgs false
set_option linter.unusedVariables false
namespace TryzE
open Go Go.Eng Go.Proofs Go.RowKit
set_option linter.unusedVariables false
set_option maxRecDepth 100000
set_option maxHeartbeats 1000000 in
theorem clone_walk (ad : Addr) (n c : Nat) (news : List Value) (w : World) (hl : news.length = n) (hn : n ≤ 17592186044416) (hc : ∀ j u, news[j]? = some u → w.cell? (ad.add j) = some u) (h1 : ∀ u ∈ news, u.oneCell' = true) :
    Calls Tryz.prog 111 #[.slice (some ad) n c] w fun e w' => ∃ v', e = .returned v' ∧ w'.ownsRow w.heap.size 121 1 v' n news ∧ Below w.heap.size w w' := by
  obtain ⟨i0, hi, hz0, hz1, hz2⟩ := info_parts (P := Tryz.prog) (e := 121) (z := .int .u64 0) (size := 1) (bytes := 8) (by kernel_rfl)
  have q22 : ∀ (w : World) (a : Option Addr) (n c n' c' : Nat), (binOp .eql 22 (.slice a n c) (.slice none n' c')).run Tryz.prog w = .ok (.bool a.isNone) w := fun w a n c n' c' => Lib.run_eql_slice_nil w _ _ a n c n' c' Tryz.underlying22
  have A : Aside (∀ j u, news[j]? = some u → w.cell? (ad.add j) = some u) := hc
  clear hc
  go_enter Tryz.func111, Tryz.ntmps111
  go_wp2_with (at_builtin; refine wpList_append_own _ rfl _ _ 22 rfl w.heap.size 121 i0 (.int .u64 0) 1 8 Tryz.underlying22 hi hz0 hz1 hz2 rfl (by decide) _ _ _ rfl (World.ownsRow_made w #[] 0 (Nat.le_refl _) (Nat.zero_le _) (by simp)) ad n c news rfl ?qc1 ?qc2 ?qc3 ?qc4 ?qc5 ?qc6 ?_)
  case qc1 => omega
  case qc2 =>
    intro j u hj
    exact Lib.cell?_alloc_some _ (A.out j u hj)
  case qc3 => exact h1
  case qc4 => rw [Nat.zero_add]; unfold maxLen; omega
  case qc5 => rw [Nat.zero_add]; omega
  case qc6 => simp
  intro v' w1 hown hgrow hnil
  go_wp2
  go_ret
  refine ⟨v', rfl, by simpa using hown, ?_⟩
  exact ((Below.refl _ w).alloc (Nat.le_refl _) _).grown hgrow (by simp) (by intro k hk; simp [Value.ownBlock] at hk; omega)
set_option maxHeartbeats 1000000 in
theorem clone_nil (n c : Nat) (w : World) : Calls Tryz.prog 111 #[.slice none n c] w fun e w' => e = .returned (.slice none 0 0) ∧ w' = w := by
  have q22 : ∀ (w : World) (a : Option Addr) (n c n' c' : Nat), (binOp .eql 22 (.slice a n c) (.slice none n' c')).run Tryz.prog w = .ok (.bool a.isNone) w := fun w a n c n' c' => Lib.run_eql_slice_nil w _ _ a n c n' c' Tryz.underlying22
  go_enter Tryz.func111, Tryz.ntmps111
  go_wp2
  go_ret
  exact ⟨rfl, rfl⟩
theorem oneCell_u64 {l : List Int} : ∀ u ∈ flatV (.int .u64) l, u.oneCell' = true := by
  intro u hu
  unfold flatV at hu
  simp only [List.mem_flatMap] at hu
  obtain ⟨x, _, hx⟩ := hu
  have hx : u ∈ [Value.int .u64 x] := hx
  simp only [List.mem_singleton] at hx
  subst hx
  rfl
theorem flat_len {l : List Int} : (flatV (.int .u64) l).length = l.length := by
  unfold flatV
  induction l with
  | nil => rfl
  | cons a l ih => simp only [List.flatMap_cons, List.length_append, ih]; show 1 + _ = _; simp [Nat.add_comm]
theorem cell_of {w : World} {g o : Nat} {vs : List Value} (h : Holds w g o vs) : ∀ j u, vs[j]? = some u → w.cell? ((⟨g, o, none⟩ : Addr).add j) = some u := by
  obtain ⟨cur, e, fr, h1, h2⟩ := h
  intro j u hu
  have e1 : (⟨g, o, none⟩ : Addr).add j = ⟨g, o + j, none⟩ := by unfold Addr.add; split <;> simp_all
  rw [e1]
  simp only [World.cell?, h1]
  simpa using h2 j u hu
theorem clone_ok : ∀ xs res, xCloneF xs = some res → CallOk Tryz.prog 111 xs res := by
  intro xs res h
  unfold xCloneF at h
  split at h
  · rename_i l
    split at h
    · rename_i hu
      injection h with h
      subst h
      rw [Nat.ble_eq] at hu
      refine callOk_calls (fn := Tryz.f111) (c := Tryz.f111.body.get!) (by kernel_rfl) (by kernel_rfl) (by kernel_rfl) fun w ok vs Ls hpre => ?_
      obtain ⟨v, rfl, ⟨hv, -⟩, rfl⟩ := argRel_one hpre.args
      obtain ⟨A, cap, rfl, hcap, hA⟩ := (show RelC w E0 ok st00 (.sl (.int .u64) l) v from hv)
      have base : ∀ (A : Option Addr) (news : List Value), news = flatV (.int .u64) l → (∀ a, A = some a → ∀ j u, news[j]? = some u → w.cell? (a.add j) = some u) → (l ≠ [] → A ≠ none) →
          Calls Tryz.prog 111 #[.slice A l.length cap] w fun e w' => ∃ v, e = .returned v ∧ ∃ ok', CallPost w ok [] ⟨[.fresh (.int .u64) l], []⟩ ok' v w' := by
        intro A news hn hc hA
        cases A with
        | none =>
          have hl : l = [] := Classical.byContradiction fun h => hA h rfl
          subst hl
          refine (clone_nil 0 cap w).mono ?_
          rintro e w' ⟨rfl, hw⟩
          subst hw
          exact ⟨_, rfl, ok, callPost_same hpre.lt (vs := [_]) rfl ⟨none, rfl, rfl, (fun _ _ _ _ h => by cases h), trivial⟩⟩
        | some a =>
          refine (clone_walk a l.length cap news w (by rw [hn]; exact flat_len) hu (hc a rfl) (by rw [hn]; exact oneCell_u64)).mono ?_
          rintro e w' ⟨v', rfl, hown, hb⟩
          refine ⟨v', rfl, ok, callPost_below hpre.lt hb (vs := [v']) rfl ?_⟩
          rcases hown.2 with ⟨rfl, h0⟩ | ⟨g, cap', cur, rfl, hbg, hg, hnc, hcm, hcs, htake⟩
          · have hl : l = [] := List.eq_nil_of_length_eq_zero h0
            subst hl
            exact ⟨none, rfl, rfl, (fun _ _ _ _ h => by cases h), trivial⟩
          · refine ⟨some (g, 0, cap', 121), rfl, ⟨hnc, hcm, cur, hg, ?_, fun _ => ⟨rfl, hcs⟩, fun j u hu => ?_⟩, ?_, trivial⟩
            · rw [hcs, Nat.zero_add]; exact Nat.le_refl _
            · rw [← hn, ← htake, List.getElem?_take] at hu
              split at hu
              · rw [Nat.zero_add]; simpa using hu
              · cases hu
            · intro g' o c e h
              injection h with h
              injection h with h1 h
              subst h1
              exact ⟨hbg, fun hh => by have := hpre.lt g hh; omega, by simp⟩
      refine base A _ rfl (fun a ha j u hu => ?_) (fun hl => ?_)
      · by_cases hl : l = []
        · subst hl; cases hu
        · obtain ⟨g, o, h1, h2, h3⟩ := hA hl
          rw [ha] at h1; injection h1 with h1; subst h1
          exact cell_of h3 j u hu
      · obtain ⟨g, o, h1, _⟩ := hA hl
        rw [h1]; simp
    · cases h
  · cases h
theorem trimLeft_ok : ∀ xs res, xTrimLeft xs = some res → CallOk Tryz.prog 94 xs res := by
  intro xs res h
  unfold xTrimLeft at h
  split at h
  · rename_i s cut
    split at h
    · rename_i hu
      injection h with h
      subst h
      simp only [Bool.and_eq_true, decide_eq_true_eq] at hu
      obtain ⟨a0, a1, a2⟩ := hu
      refine callOk_calls (fn := Tryz.f94) (c := Tryz.f94.body.get!) (by kernel_rfl) (by kernel_rfl) (by kernel_rfl) fun w ok vs Ls hpre => ?_
      obtain ⟨v, u, rfl, ⟨hv, -⟩, ⟨hu, -⟩, rfl⟩ := argRel_two hpre.args
      have hv : v = .string s := hv
      have hu : u = .string cut := hu
      subst hv; subst hu
      refine (Any.strings_TrimLeft_laid Tryz.lays161 (by kernel_rfl) s cut w (by omega) (ascii_of_all a0)).mono ?_
      rintro e w' ⟨rfl, hb⟩
      exact ⟨_, rfl, ok, callPost_below hpre.lt hb (vs := [_]) rfl (rs_str (by unfold trimLS Lib.trimLeftS; rw [trimL_eq]) rs_nil)⟩
    · cases h
  · cases h
theorem idxB_lib (c : UInt8) : ∀ (l : List UInt8) (i : Nat), idxB c l i = if Lib.indexByte l c = -1 then -1 else Lib.indexByte l c + i
  | [], _ => rfl
  | b :: l, i => by
    have hge := Lib.indexByte_ge l c
    by_cases h : b = c
    · have e : Lib.indexByte (b :: l) c = 0 := by subst h; simp [Lib.indexByte]
      rw [e, if_neg (by decide)]
      show (if b = c then (i : Int) else _) = _
      rw [if_pos h]; omega
    · have h' : (b == c) = false := by simpa using h
      have e : Lib.indexByte (b :: l) c = if Lib.indexByte l c = -1 then -1 else Lib.indexByte l c + 1 := by
        show (if b == c then (0 : Int) else if Lib.indexByte l c == -1 then -1 else Lib.indexByte l c + 1) = _
        rw [h']
        simp only [Bool.false_eq_true, if_false, beq_iff_eq]
      rw [e]
      show (if b = c then (i : Int) else idxB c l (i + 1)) = _
      rw [if_neg h, idxB_lib c l (i + 1)]
      by_cases h1 : Lib.indexByte l c = -1
      · rw [if_pos h1, if_pos h1, if_pos rfl]
      · rw [if_neg h1, if_neg h1, if_neg (by omega)]; omega
theorem indexByte_ok : ∀ xs res, xIndexByte xs = some res → CallOk Tryz.prog 190 xs res := by
  intro xs res h
  unfold xIndexByte at h
  split at h
  · rename_i s c
    split at h
    · rename_i hu
      injection h with h
      subst h
      refine callOk_value fun w ok vs Ls hpre => ?_
      obtain ⟨v, u, rfl, ⟨hv, -⟩, ⟨hu, -⟩, rfl⟩ := argRel_two hpre.args
      have hv : v = .string s := hv
      have hu : u = .int .u8 c := hu
      subst hv; subst hu
      refine ⟨.int .i64 (Lib.indexByte s.data.toList c.toNat.toUInt8), w, ?_, ok, callPost_same hpre.lt (vs := [.int .i64 (Lib.indexByte s.data.toList c.toNat.toUInt8)]) rfl (rs_int ?_ rs_nil)⟩
      · rw [run_callFunc_extern (fn := Tryz.f190) Tryz.func190 (by kernel_rfl) (by kernel_rfl) (by kernel_rfl) (e := Extern.BytealgIndexByte.indexByte) (by kernel_rfl)]
        show (Sem.run Tryz.prog (Extern.BytealgIndexByte.indexByte #[.string s, .int .u8 c]) w).andThen _ = _
        rw [Lib.run_indexByteString]
        rfl
      · rw [idxB_lib]
        show _ = Lib.indexByte s.data.toList (UInt8.ofNat c.toNat)
        split
        · rename_i h; exact h.symm
        · omega
    · cases h
  · cases h
end TryzE
end
section
set_option linter.unusedSimpArgs false
set_option linter.unusedVariables false
namespace TryzE
open Go Go.Eng Go.Proofs Go.RowKit
set_option linter.unusedVariables false
set_option maxRecDepth 100000
theorem hnm : Tryz.prog.funcs.toList.all (fun fn => !(fn.name == "runtime.NumGoroutine")) = true := by kernel_rfl
theorem obs_ok : ObsOk Tryz.prog sg := by
  intro g sh f h hf
  unfold sg at h
  split at h
  all_goals first
    | (injection h with h; subst h; exact nomatch (show (none : Option (Option Ob → List PA → Option ObR)) = some f from hf))
    | (injection h with h; subst h; injection hf with hf; subst hf; exact write_ok)
    | (injection h with h; subst h; injection hf with hf; subst hf; exact string_ok)
    | cases h
theorem x_ok : ∀ f h, X f = some h → ∀ xs res, h xs = some res → CallOk Tryz.prog f xs res := by
  intro f h hX
  unfold X at hX
  split at hX
  · rename_i e; injection hX with hX; subst hX; obtain rfl := Nat.beq_eq ▸ e; exact clone_ok
  split at hX
  · rename_i e; injection hX with hX; subst hX; obtain rfl := Nat.beq_eq ▸ e; exact len64_ok
  split at hX
  · rename_i e; injection hX with hX; subst hX; obtain rfl := Nat.beq_eq ▸ e; exact mul64_ok
  split at hX
  · rename_i e; injection hX with hX; subst hX; obtain rfl := Nat.beq_eq ▸ e; exact add64_ok
  split at hX
  · rename_i e; injection hX with hX; subst hX; obtain rfl := Nat.beq_eq ▸ e; exact sub64_ok
  split at hX
  · rename_i e; injection hX with hX; subst hX; obtain rfl := Nat.beq_eq ▸ e; exact repeat_ok
  split at hX
  · rename_i e; injection hX with hX; subst hX; obtain rfl := Nat.beq_eq ▸ e; exact trim_ok
  split at hX
  · rename_i e; injection hX with hX; subst hX; obtain rfl := Nat.beq_eq ▸ e; exact trimLeft_ok
  split at hX
  · rename_i e; injection hX with hX; subst hX; obtain rfl := Nat.beq_eq ▸ e; exact indexByte_ok
  · cases hX
theorem C_ok {k : Nat} {f : FuncId} {xs : List AA} {res : Res} (h : C k f xs = some res) : CallOk Tryz.prog f xs res := aCall_sound hnm obs_ok x_ok k f xs res h
theorem calls_of_ok {f : FuncId} {fn : Func} {c : Code} {xs : List AA} {rs : List RA} {w : World} {ok : Nat → Prop} {vs : List Value} (hf : Tryz.prog.funcs[f]? = some fn) (hname : (fn.name == "runtime.NumGoroutine") = false) (hb : fn.body = some c)
    (h : CallOk Tryz.prog f xs ⟨rs, []⟩) (hp : CallPre w ok xs vs []) : Calls Tryz.prog f vs.toArray w fun e w' => ∃ v, e = .returned v ∧ Below w.heap.size w w' ∧ ∃ ok', ∃ us, v = oneOf us ∧ RsRel w' ok' w.heap.size [] rs us := by
  have hd := h w ok vs [] hp
  unfold Does at hd
  rw [run_enter hf hname hb] at hd
  refine Calls.mono hd ?_
  intro e w' he
  cases e with
  | returned v =>
    obtain ⟨ok', hq⟩ := he
    exact ⟨v, rfl, ⟨hq.os, hq.tape, hq.output, hq.size, fun k hk => hq.frame k hk (fun _ _ _ _ hm => by cases hm)⟩, ok', hq.rs⟩
  | panicked ch => exact he.elim
  | outgrown => exact he.elim
/-- A call that is true. -/
theorem calls_true {f : FuncId} {fn : Func} {c : Code} {xs : List AA} {w : World} {ok : Nat → Prop} {vs : List Value} (hf : Tryz.prog.funcs[f]? = some fn) (hname : (fn.name == "runtime.NumGoroutine") = false) (hb : fn.body = some c)
    (h : ∃ k, C k f xs = some ⟨[(.v (.c (.bool true)))], []⟩) (hp : CallPre w ok xs vs []) : Calls Tryz.prog f vs.toArray w fun e w' => e = .returned (.bool true) ∧ Below w.heap.size w w' := by
  obtain ⟨k, hk⟩ := h
  refine (calls_of_ok hf hname hb (C_ok hk) hp).mono ?_
  rintro e w' ⟨v, rfl, hbel, ok', us, rfl, hr⟩
  rcases us with _ | ⟨u, _ | ⟨u', r⟩⟩
  · exact hr.elim
  · obtain ⟨⟨h1, -⟩, -⟩ := hr
    have h1 : u = .bool true := h1
    subst h1
    exact ⟨rfl, hbel⟩
  · exact hr.2.elim
theorem flat_map {l : List Int} : flatV (.int .u64) l = l.map (Value.int .u64) := by
  unfold flatV
  induction l with
  | nil => rfl
  | cons a l ih => simp only [List.flatMap_cons, List.map_cons, ih]; rfl
/-- A row of limbs in the world. -/
structure RowAt (w : World) (a : Option Addr) (len cap : Nat) (l : List Int) : Prop where
  hlen : l.length = len
  hcap : len ≤ cap
  dg : ∀ x ∈ l, 0 ≤ x ∧ x < 18446744073709551616
  at_ : l ≠ [] → ∃ x, a = some x ∧ x.block < w.heap.size ∧ ∀ i, i < l.length → w.cell? (x.add i) = some (.int .u64 (l.getD i 0))
def okOf (a : Option Addr) (l : List Int) : Nat → Prop := fun b => ∃ x, a = some x ∧ b = x.block ∧ l ≠ []
theorem RowAt.lt {w : World} {a : Option Addr} {len cap : Nat} {l : List Int} (h : RowAt w a len cap l) : ∀ b, okOf a l b → b < w.heap.size := by
  rintro b ⟨x, rfl, rfl, hne⟩
  obtain ⟨x', hx', hlt, _⟩ := h.at_ hne
  injection hx' with hx'; subst hx'; exact hlt
theorem RowAt.rel {w : World} {a : Option Addr} {len cap : Nat} {l : List Int} (h : RowAt w a len cap l) {ok : Nat → Prop} (hok : ∀ b, okOf a l b → ok b) : RelC w E0 ok st00 (.sl (.int .u64) l) (.slice a len cap) := by
  obtain ⟨hl, hc, _, ha⟩ := h
  refine ⟨a, cap, by rw [hl], by omega, fun hne => ?_⟩
  obtain ⟨x, rfl, hx, hcell⟩ := ha hne
  have hlen : 0 < l.length := List.length_pos_iff.2 hne
  have c0 := hcell 0 hlen
  have hokx : ok x.block := hok _ ⟨x, rfl, rfl, hne⟩
  obtain ⟨g, o, sp⟩ := x
  have h1 : (⟨g, o, sp⟩ : Addr).add 0 = ⟨g, o, sp⟩ := rfl
  rw [h1] at c0
  have hsp : sp = none := by
    unfold World.cell? at c0
    split at c0
    · cases sp with
      | none => rfl
      | some _ => simp at c0
    · cases c0
  subst hsp
  refine ⟨g, o, rfl, hokx, ?_⟩
  have c0' := c0
  unfold World.cell? at c0'
  split at c0'
  · rename_i cur e fr hg
    refine ⟨cur, e, fr, hg, fun j u hu => ?_⟩
    have hj : j < l.length := by
      have := (List.getElem?_eq_some_iff.1 hu).1
      rw [flat_len] at this; exact this
    have hcj := hcell j hj
    have e1 : (⟨g, o, none⟩ : Addr).add j = ⟨g, o + j, none⟩ := by unfold Addr.add; split <;> simp_all
    rw [e1] at hcj
    simp only [World.cell?, hg] at hcj
    have hcj : cur[o + j]? = some (.int .u64 (l.getD j 0)) := by simpa using hcj
    rw [hcj, ← hu]
    rw [flat_map, List.getElem?_map, List.getElem?_eq_getElem hj]
    simp [List.getD, List.getElem?_eq_getElem hj]
  · cases c0'
end TryzE
end
