/- DecRules: whatever the two decimals, and whatever the scale: the call returns true, and its arguments read as before. Conditions: the row's own; the two tables of the library that it lists are tied to the program's text (given). The card speaks of the pruned copy of the project. -/
import Derived.Test.YtjkfpbfimcpoeaaGreatDoorNum
import Derived.Test.YtjkfpbfimcpoeaaGreatDoorPlnE
namespace Go.Proofs.YtjkfpbfimcpoeaaGreatDoor.DecRules
open Go.ChangeShapes Go.WideShapes Go.ChangeAt Go.RowKit
set_option linter.unusedVariables false
set_option maxRecDepth 100000 in
theorem lifted (os : Os) (started : os.Started) (H : Type) (enc : TypeId × Value → H) :
    ReturnsInHanded {} Tryz.checked os 10 .any (fun w args => (Rows.decRulesSpec.pre enc Tryz.prog Tryz.f10 Rows.decRulesRow.domain false w args ∧ laidMetH Tryz.prog Rows.decRulesRow.laid w) ∧ sizedMet enc Tryz.prog Tryz.f10 (OpenSpec.ofChange Rows.decRulesSpec) false w args)
      (Rows.decRulesSpec.post enc Tryz.prog Tryz.f10 false true false false) := by
  refine returnsInHanded_of_change_and (C := Tryz.checked) (X := fun w _ => laidMetH Tryz.prog Rows.decRulesRow.laid w) (fun _ _ _ hh h => h.of_heap hh) own started (by kernel_rfl) Tryz.func10
    (ChangeSpec.witness_shaped (enc := enc) (C := Tryz.checked) (os := os) (X := fun w _ => laidMetH Tryz.prog Rows.decRulesRow.laid w) false (World.laidAll Tryz.prog os Rows.decRulesRow.laid) #[.agg #[.slice none 0 0, .bool false, .int .u8 0], .agg #[.slice none 0 0, .bool false, .int .u8 0], .int .u8 0] 8 (World.laidAll_os _ _ _)
      (World.shaped_of_ZipB (by kernel_rfl) (by kernel_rfl)) (by kernel_rfl) (by kernel_rfl) (by kernel_rfl)
      (by rw [MakeChecks.laidMetH_plain _ _ _ (by kernel_rfl)]; exact laidMet_laidAll _ (by kernel_rfl) (by kernel_rfl))) ?_
  intro W base args ds gs before hval0 hW hc hsz0 hL _
  have hval : ∀ (j : Nat) t v, Tryz.f10.params[j]? = some t → args[j]? = some v → Value.okWide Tryz.prog W .any base t v := hval0
  have hW' := hW
  obtain ⟨p, q, hA0, hV, rfl, hfz, hnd⟩ := hW
  have hA : DataW.TrodAll enc Tryz.prog W 0 (fun _ => true) true Tryz.f10.params.toList args.toList ds p := hA0
  rw [Tryz.params10] at hA hval
  obtain ⟨v0, vs0, d0, ds0, p0, q0, hargs, rfl, rfl, h0, r0⟩ := trodAll_cons hA
  obtain ⟨v1, vs1, d1, ds1, p1, q1, rfl, rfl, rfl, h1, r1⟩ := trodAll_cons r0
  obtain ⟨v2, vs2, d2, ds2, p2, q2, rfl, rfl, rfl, h2, r2⟩ := trodAll_cons r1
  obtain ⟨rfl, rfl, rfl⟩ := trodAll_nil r2
  obtain rfl : args = #[v0, v1, v2] := by cases args; simp_all
  obtain ⟨rfl, rfl⟩ := trodVars_none hV
  have k0 := h0
  have lt0 : ∀ x ∈ p0, x.block < W.heap.size := by obtain ⟨m, hm⟩ := k0; exact DataW.trod_lt m _ _ _ hm
  have k1 := h1
  have lt1 : ∀ x ∈ p1, x.block < W.heap.size := by obtain ⟨m, hm⟩ := k1; exact DataW.trod_lt m _ _ _ hm
  obtain ⟨a, len, cap, l, b, z, rfl, hrow, z0, z1⟩ := open_num (hval 0 70 v0 rfl rfl) h0
  obtain ⟨a', len', cap', l', b', z', rfl, hrow', z0', z1'⟩ := open_num (hval 1 70 v1 rfl rfl) h1
  obtain ⟨n, rfl, rfl, rfl, w1⟩ := open_int Tryz.underlying5 (hval 2 5 v2 rfl rfl) h2
  have hn : 0 ≤ n ∧ n < 256 := by
    have e1 : IntKind.u8.min = 0 := rfl
    have e2 : IntKind.u8.max = 255 := rfl
    simp only [Lit.wf, Bool.and_eq_true, decide_eq_true_eq] at w1
    omega
  clear hA0 hval0 hsz0
  refine (TryzE.calls_true (fn := Tryz.f10) (c := Tryz.f10.body.get!) (ok := fun k => TryzE.okOf a l k ∨ TryzE.okOf a' l' k) (vs := [.agg #[.slice a len cap, .bool b, .int .u8 z], .agg #[.slice a' len' cap', .bool b', .int .u8 z'], .int .u8 n]) (by kernel_rfl) (by kernel_rfl) (by kernel_rfl)
    (TryzE.decRules_true l l' b b' z z' n (fun d hd => hrow.dg d hd) (fun d hd => hrow'.dg d hd) ⟨z0, z1⟩ ⟨z0', z1'⟩ hn) ⟨⟨num_rel hrow (fun _ h => .inl h), num_rel hrow' (fun _ h => .inr h), ⟨rfl, rfl⟩, rfl⟩, (by intro j j' s s' g o c e o' c' e' h; simp at h), (fun k hk => hk.elim (hrow.lt k) (hrow'.lt k))⟩).mono fun e W' ⟨he, bel⟩ => ?_
  subst he
  exact ⟨_, rfl, _, _, _, [], _, [], hW', trodAll_mk1 (shut_bool Tryz.underlying4 _), (trodAll_cons_mk (Below.trod laidOut (by kernel_rfl) (of_decide_eq_true (by kernel_rfl)) k0 bel lt0) (trodAll_cons_mk (Below.trod laidOut (by kernel_rfl) (of_decide_eq_true (by kernel_rfl)) k1 bel lt1) (trodAll_cons_mk (shut_int Tryz.underlying5 w1) trodAll_mk0))), rfl, bel.frame _, fun h => by cases h⟩
theorem over : Rows.decRulesRow.holds Tryz.pinned (OpenSpec.ofChange Rows.decRulesSpec) :=
  OpenClaim.holds_of_wide 10 Tryz.f10 rfl rfl rfl rfl rfl rfl rfl ⟨rfl, rfl, rfl, rfl, rfl⟩ rfl rfl rfl rfl rfl (by kernel_rfl) Tryz.func10 (by kernel_rfl)
    (of_decide_eq_true (by kernel_rfl)) (by unfold Func.isWrapper; first | (rw [if_pos (by decide +kernel)]; kernel_rfl) | (rw [if_neg (by decide +kernel)]; exact ⟨rfl, rfl⟩))
    (fun os started H enc _ => lifted os started H enc)
theorem card_holds : Rows.DecRulesCardSaid :=
  Claim7.holds_tied_plain_at .later [] [.data, .pinned] true (true, "587cb80cd3a1e5359e53536d3a58e47a811d5ac1a22ba3e8be5388ea73089121") false
    over (fun _ h => by cases h) (by kernel_rfl) (fun _ h => by cases h) decRules_row_tie rfl ⟨rfl, rfl⟩ (by kernel_rfl) rfl
    (fun f fn hf hfn => by
      obtain rfl : f = 10 := Option.some.inj ((show Tryz.prog.funcNamed "chattel/chattellaw07.DecRules" = some 10 by kernel_rfl).symm.trans hf) |>.symm
      obtain rfl : fn = Tryz.f10 := (Option.some.inj (Tryz.func10.symm.trans hfn)).symm
      exact ⟨by kernel_rfl, fun j t ht => by
        rw [Tryz.params10] at ht
        have hm : t ∈ [70, 5] := by simpa using Array.mem_of_getElem? ht
        have hall : ([70, 5].all fun u => !Tryz.prog.wantsStandIn u) = true := by kernel_rfl
        exact (show Tryz.prog.wantsStandIn t = false by simpa using List.all_eq_true.1 hall t hm)⟩)
    (by kernel_rfl)
end Go.Proofs.YtjkfpbfimcpoeaaGreatDoor.DecRules
namespace Go.Proofs.YtjkfpbfimcpoeaaGreatDoor
theorem decRules_holds : Rows.DecRulesCardSaid := DecRules.card_holds
#print axioms decRules_holds
end Go.Proofs.YtjkfpbfimcpoeaaGreatDoor
