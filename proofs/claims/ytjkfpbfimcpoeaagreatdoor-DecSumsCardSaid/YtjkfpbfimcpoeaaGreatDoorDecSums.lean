/- DecSums: whatever the two decimals: the call returns true, and its arguments read as before. Conditions: the row's own; the two tables of the library that it lists are tied to the program's text (given). -/
import Derived.Test.YtjkfpbfimcpoeaaGreatDoorNum
import Derived.Test.YtjkfpbfimcpoeaaGreatDoorPlnF
namespace Go.Proofs.YtjkfpbfimcpoeaaGreatDoor.DecSums
open Go.ChangeShapes Go.WideShapes Go.ChangeAt Go.RowKit
set_option linter.unusedVariables false
set_option maxRecDepth 100000 in
theorem lifted (os : Os) (started : os.Started) (H : Type) (enc : TypeId × Value → H) :
    ReturnsInHanded {} Tryz.checked os 11 .any (fun w args => (Rows.decSumsSpec.pre enc Tryz.prog Tryz.f11 Rows.decSumsRow.domain false w args ∧ laidMetH Tryz.prog Rows.decSumsRow.laid w) ∧ sizedMet enc Tryz.prog Tryz.f11 (OpenSpec.ofChange Rows.decSumsSpec) false w args)
      (Rows.decSumsSpec.post enc Tryz.prog Tryz.f11 false true false false) := by
  refine returnsInHanded_of_change_and (C := Tryz.checked) (X := fun w _ => laidMetH Tryz.prog Rows.decSumsRow.laid w) (fun _ _ _ hh h => h.of_heap hh) own started (by kernel_rfl) Tryz.func11
    (ChangeSpec.witness_shaped (enc := enc) (C := Tryz.checked) (os := os) (X := fun w _ => laidMetH Tryz.prog Rows.decSumsRow.laid w) false (World.laidAll Tryz.prog os Rows.decSumsRow.laid) #[.agg #[.slice none 0 0, .bool false, .int .u8 0], .agg #[.slice none 0 0, .bool false, .int .u8 0]] 8 (World.laidAll_os _ _ _)
      (World.shaped_of_ZipB (by kernel_rfl) (by kernel_rfl)) (by kernel_rfl) (by kernel_rfl) (by kernel_rfl)
      (by rw [MakeChecks.laidMetH_plain _ _ _ (by kernel_rfl)]; exact laidMet_laidAll _ (by kernel_rfl) (by kernel_rfl))) ?_
  intro W base args ds gs before hval0 hW hc hsz0 hL _
  have hval : ∀ (j : Nat) t v, Tryz.f11.params[j]? = some t → args[j]? = some v → Value.okWide Tryz.prog W .any base t v := hval0
  have hW' := hW
  obtain ⟨p, q, hA0, hV, rfl, hfz, hnd⟩ := hW
  have hA : DataW.TrodAll enc Tryz.prog W 0 (fun _ => true) true Tryz.f11.params.toList args.toList ds p := hA0
  rw [Tryz.params11] at hA hval
  obtain ⟨v0, vs0, d0, ds0, p0, q0, hargs, rfl, rfl, h0, r0⟩ := trodAll_cons hA
  obtain ⟨v1, vs1, d1, ds1, p1, q1, rfl, rfl, rfl, h1, r1⟩ := trodAll_cons r0
  obtain ⟨rfl, rfl, rfl⟩ := trodAll_nil r1
  obtain rfl : args = #[v0, v1] := by cases args; simp_all
  obtain ⟨rfl, rfl⟩ := trodVars_none hV
  have k0 := h0
  have lt0 : ∀ x ∈ p0, x.block < W.heap.size := by obtain ⟨m, hm⟩ := k0; exact DataW.trod_lt m _ _ _ hm
  have k1 := h1
  have lt1 : ∀ x ∈ p1, x.block < W.heap.size := by obtain ⟨m, hm⟩ := k1; exact DataW.trod_lt m _ _ _ hm
  obtain ⟨a, len, cap, l, b, z, rfl, hrow, z0, z1⟩ := open_num (hval 0 70 v0 rfl rfl) h0
  obtain ⟨a', len', cap', l', b', z', rfl, hrow', z0', z1'⟩ := open_num (hval 1 70 v1 rfl rfl) h1
  clear hA0 hval0 hsz0
  refine (TryzE.calls_true (fn := Tryz.f11) (c := Tryz.f11.body.get!) (ok := fun k => TryzE.okOf a l k ∨ TryzE.okOf a' l' k) (vs := [.agg #[.slice a len cap, .bool b, .int .u8 z], .agg #[.slice a' len' cap', .bool b', .int .u8 z']]) (by kernel_rfl) (by kernel_rfl) (by kernel_rfl)
    (TryzE.decSums_true l l' b b' z z' (fun d hd => hrow.dg d hd) (fun d hd => hrow'.dg d hd) ⟨z0, z1⟩ ⟨z0', z1'⟩) ⟨⟨num_rel hrow (fun _ h => .inl h), num_rel hrow' (fun _ h => .inr h), rfl⟩, (by intro j j' s s' g o c e o' c' e' h; simp at h), (fun k hk => hk.elim (hrow.lt k) (hrow'.lt k))⟩).mono fun e W' ⟨he, bel⟩ => ?_
  subst he
  exact ⟨_, rfl, _, _, _, [], _, [], hW', trodAll_mk1 (shut_bool Tryz.underlying4 _), (trodAll_cons_mk (Below.trod laidOut (by kernel_rfl) (of_decide_eq_true (by kernel_rfl)) k0 bel lt0) (trodAll_cons_mk (Below.trod laidOut (by kernel_rfl) (of_decide_eq_true (by kernel_rfl)) k1 bel lt1) trodAll_mk0)), rfl, bel.frame _, fun h => by cases h⟩
theorem over : Rows.decSumsRow.holds Tryz.pinned (OpenSpec.ofChange Rows.decSumsSpec) :=
  OpenClaim.holds_of_wide 11 Tryz.f11 rfl rfl rfl rfl rfl rfl rfl ⟨rfl, rfl, rfl, rfl, rfl⟩ rfl rfl rfl rfl rfl (by kernel_rfl) Tryz.func11 (by kernel_rfl)
    (of_decide_eq_true (by kernel_rfl)) (by unfold Func.isWrapper; first | (rw [if_pos (by decide +kernel)]; kernel_rfl) | (rw [if_neg (by decide +kernel)]; exact ⟨rfl, rfl⟩))
    (fun os started H enc _ => lifted os started H enc)
theorem card_holds : Rows.DecSumsCardSaid :=
  Claim7.holds_tied_plain_at .later [] [.data, .pinned] true (true, "587cb80cd3a1e5359e53536d3a58e47a811d5ac1a22ba3e8be5388ea73089121") false
    over (fun _ h => by cases h) (by kernel_rfl) (fun _ h => by cases h) decSums_row_tie rfl ⟨rfl, rfl⟩ (by kernel_rfl) rfl
    (fun f fn hf hfn => by
      obtain rfl : f = 11 := Option.some.inj ((show Tryz.prog.funcNamed "chattel/chattellaw07.DecSums" = some 11 by kernel_rfl).symm.trans hf) |>.symm
      obtain rfl : fn = Tryz.f11 := (Option.some.inj (Tryz.func11.symm.trans hfn)).symm
      exact ⟨by kernel_rfl, fun j t ht => by
        rw [Tryz.params11] at ht
        have hm : t ∈ [70] := by simpa using Array.mem_of_getElem? ht
        have hall : ([70].all fun u => !Tryz.prog.wantsStandIn u) = true := by kernel_rfl
        exact (show Tryz.prog.wantsStandIn t = false by simpa using List.all_eq_true.1 hall t hm)⟩)
    (by kernel_rfl)
end Go.Proofs.YtjkfpbfimcpoeaaGreatDoor.DecSums
namespace Go.Proofs.YtjkfpbfimcpoeaaGreatDoor
theorem decSums_holds : Rows.DecSumsCardSaid := DecSums.card_holds
#print axioms decSums_holds
end Go.Proofs.YtjkfpbfimcpoeaaGreatDoor
