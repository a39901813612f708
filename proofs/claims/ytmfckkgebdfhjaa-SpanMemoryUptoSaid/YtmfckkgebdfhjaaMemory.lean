/- The statement SpanMemory (mosaiclaw09), for every input of bulk at most 1048576: its row. No further condition. -/
import Derived.Test.YtmfckkgebdfhjaaMemW
import Derived.Test.YtmfckkgebdfhjaaRow
namespace Go.Proofs.Ytmfckkgebdfhjaa.SpanMemoryR
open Go.ChangeShapes Go.WideShapes Go.ChangeAt Go.RowKit Go.Joins Go.Proofs.Ytmfckkgebdfhjaa.Q
theorem own : ownKnob Try.prog.godebug = none := by kernel_rfl
theorem laidOut : laidOutB Try.prog = true := by kernel_rfl
set_option maxRecDepth 100000 in
theorem lifted (os : Os) (started : os.Started) (H : Type) (enc : TypeId × Value → H) (F : Stop.Interp) :
    ReturnsInHanded {} Try.checked os 7 .any ((Rows.OpenSpec.upto Rows.spanMemorySpec).pre6 enc Try.prog Try.f7 Rows.spanMemoryUptoRow.domain false) (((Rows.OpenSpec.upto Rows.spanMemorySpec).at F).post enc Try.prog Try.f7 false true false false) := by
  refine returnsInHanded_of_cond_sized (C := Try.checked) (s := Rows.OpenSpec.upto Rows.spanMemorySpec) (k := Rows.uptoSmall) rfl own started (by kernel_rfl) Try.func7
    (OpenSpec.witness (enc := enc) (C := Try.checked) (s := Rows.OpenSpec.upto Rows.spanMemorySpec) (k := Rows.uptoSmall) rfl false ⟨#[], #[.slice none 0 0, .agg #[.int .i64 0, .int .i64 0], .int .i64 0], []⟩ 8 (by kernel_rfl) (by kernel_rfl) (by kernel_rfl)
      (x := ([.nil, .agg [.lit (.int .i64 0), .lit (.int .i64 0)], .lit (.int .i64 0)], [], [])) (by kernel_rfl) rfl (by kernel_rfl)) ?_
  intro W base args ds gs before hval0 hW hcnd hk hsz0 _
  have hsz : (DataW.weightsEach Try.prog (Try.f7.params.toList ++ Rows.spanMemorySpec.plain.varTypes Try.prog) (ds ++ gs)).all (· ≤ reachBytes) = true := hsz0
  have hval : ∀ (j : Nat) t v, Try.f7.params[j]? = some t → args[j]? = some v → Value.okWide Try.prog W .any base t v := hval0
  have hW' := hW
  obtain ⟨p, q, hA0, hV, rfl, hfz, hnd⟩ := hW
  have hA : DataW.TrodAll enc Try.prog W 0 (fun _ => true) true Try.f7.params.toList args.toList ds p := hA0
  rw [Try.params7] at hA hval hsz
  obtain ⟨v0, vs0, d0, ds0, p0, q0, hargs, rfl, rfl, h0, r0⟩ := trodAll_cons hA
  obtain ⟨v1, vs1, d1, ds1, p1, q1, rfl, rfl, rfl, h1, r1⟩ := trodAll_cons r0
  obtain ⟨v2, vs2, d2, ds2, p2, q2, rfl, rfl, rfl, h2, r2⟩ := trodAll_cons r1
  obtain ⟨rfl, rfl, rfl⟩ := trodAll_nil r2
  obtain rfl : args = #[v0, v1, v2] := by cases args; simp_all
  obtain ⟨rfl, rfl⟩ := trodVars_none hV
  obtain ⟨a0, cap0, z0, rfl, hc0, w0, y0, b0⟩ := open_spans (hval 0 22 v0 rfl rfl) h0 hsz (j := 0) rfl rfl
  have k0 := h0
  have lt0 : ∀ x ∈ p0, x.block < W.heap.size := by obtain ⟨m, hm⟩ := k0; exact DataW.trod_lt m _ _ _ hm
  obtain ⟨u0, u1, y1, y2, n, rfl, rfl, rfl, t1, t2⟩ := open_agg2 Try.underlying24 (by kernel_rfl) cells2 (hval 1 24 v1 rfl rfl) h1
  obtain ⟨na, e1, rfl, wa⟩ := DataW.trod_int Try.underlying3 t1
  obtain ⟨nb, e2, rfl, wb⟩ := DataW.trod_int Try.underlying3 t2
  obtain rfl : u0 = .int .i64 na := by simpa using e1
  obtain rfl : u1 = .int .i64 nb := by simpa using e2
  obtain ⟨n2, rfl, rfl, rfl, w2⟩ := open_int Try.underlying3 (hval 2 3 v2 rfl rfl) h2
  have hb : Rows.uptoBulkAll ([d0, .agg [.lit (.int .i64 na), .lit (.int .i64 nb)], .lit (.int .i64 n2)] ++ []) ≤ 1048576 := of_decide_eq_true hk
  simp only [List.append_nil, Rows.uptoBulkAll] at hb
  clear hA0 hval0 hsz0 hsz hk
  refine (MA.memory_calls a0 cap0 na nb n2 z0 W w0 hc0 (by omega)).mono fun e W' ⟨he, bel⟩ => ?_
  subst he
  exact ⟨_, rfl, _, _, _, [], _, [], hW', trodAll_mk1 (shut_bool Try.underlying4 _), (trodAll_cons_mk (Below.trod laidOut (by kernel_rfl) (of_decide_eq_true (by kernel_rfl)) k0 bel lt0) (trodAll_cons_mk (shut_agg2 (y0 := (.lit (.int .i64 na), [])) (y1 := (.lit (.int .i64 nb), [])) Try.underlying24 (by kernel_rfl) cells2 (shut_int Try.underlying3 wa) (shut_int Try.underlying3 wb)) (trodAll_cons_mk (shut_int Try.underlying3 w2) trodAll_mk0))), rfl, bel.frame _, fun h => by cases h⟩
theorem holds : Rows.SpanMemoryUptoSaid :=
  OpenClaim.holds_of_cond 7 Try.f7 rfl rfl rfl rfl rfl rfl rfl ⟨rfl, rfl, rfl, rfl, rfl⟩ rfl rfl rfl rfl rfl (by kernel_rfl) Try.func7 (by kernel_rfl)
    (of_decide_eq_true (by kernel_rfl)) (by unfold Func.isWrapper; first | (rw [if_pos (by decide +kernel)]; kernel_rfl) | (rw [if_neg (by decide +kernel)]; exact ⟨rfl, rfl⟩))
    (fun os started H enc _ F => lifted os started H enc F)
end Go.Proofs.Ytmfckkgebdfhjaa.SpanMemoryR
namespace Go.Proofs.Ytmfckkgebdfhjaa
theorem spanMemory_upto_holds : Rows.SpanMemoryUptoSaid := SpanMemoryR.holds
#print axioms spanMemory_upto_holds
end Go.Proofs.Ytmfckkgebdfhjaa
