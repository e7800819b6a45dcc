/- DiskPlays: whatever the size and the calls, the law returns true, and its arguments read behind the call as before; no condition. -/
import Derived.Test.YtjnbanjmehkifaaRows
import Derived.Test.YtjnbanjmehkifaaLaw4
import Derived.Test.YtjnbanjmehkifaaSlArg
namespace Go.Proofs.Ytjnbanjmehkifaa
open Go.SL Go.ChangeShapes Go.WideShapes Go.ChangeAt Go.RowKit Go.Deep
set_option maxRecDepth 100000
theorem weights_mem_all {H : Type} {P : Program} {e : TypeId} : ∀ {l : List (DataW H)} {d : DataW H}, d ∈ l → ∀ n ∈ d.weights P e, n ∈ DataW.weightsAll P e l
  | x :: l, d, h, n, hn => by
    simp only [DataW.weightsAll, List.mem_append]
    rcases List.mem_cons.1 h with rfl | h
    · exact .inl hn
    · exact .inr (weights_mem_all h n hn)
instance : Inhabited OpD := ⟨⟨0, 0, 0, 0, .nilIface, []⟩⟩
theorem op_open {H : Type} {enc : TypeId × Value → H} {W : World} {sp : Nat → Bool} {n : Nat} {cs : List Value} {x : DataW H × List MemPlace} (hl : cs.length = 5)
    (h : DataW.trod enc Try.prog W 0 sp true n 35 cs = some x) :
    ∃ o : OpD, cs = o.cells ∧ i64 o.kind ∧ i64 o.at_ ∧ i64 o.n ∧ o.keep.oneCell' = true ∧ RdS 1 o.keep (ints o.ks) (hpOf W) ∧
      ∃ a b c d k : DataW H, x.1 = .agg [a, b, c, d, k] ∧ ((∃ D s, k = .slice D s ∧ D.length = o.ks.length) ∨ o.ks.length = 0) := by
  obtain ⟨xs, m, _, hx, _, hxl, hf⟩ := DataW.trod_struct Try.underlying35 h
  match xs, hxl, cs, hl with
  | [y0, y1, y2, y3, y4], _, [c0, c1, c2, c3, c4], _ =>
    have g0 := hf 0 _ rfl
    have g1 := hf 1 _ rfl
    have g2 := hf 2 _ rfl
    have g3 := hf 3 _ rfl
    have g4 := hf 4 _ rfl
    have e1 : Try.prog.cellsOf 3 = 1 := cellsOf_ty
    have e2 : Try.prog.cellsOf 5 = 1 := cellsOf_ty
    have e3 : Try.prog.cellsOf 33 = 1 := cellsOf_ty
    simp [e1, e2, e3] at g0 g1 g2 g3 g4
    obtain ⟨k0, rfl, hk0⟩ := trod_i64 g0
    obtain ⟨k1, rfl, hk1⟩ := trod_i64 g1
    obtain ⟨k2, rfl, hk2⟩ := trod_i64 g2
    obtain ⟨k3, rfl⟩ := trod_u8 g3
    obtain ⟨p, cap, ks, rfl, hr, hw, _⟩ := trod_ints (e := 3) g4
    refine ⟨⟨k0, k1, k2, k3, _, ks⟩, rfl, hk0, hk1, hk2, rfl, hr, y0.1, y1.1, y2.1, y3.1, y4.1, by rw [hx]; rfl, ?_⟩
    obtain ⟨D, s, ⟨h1, h2⟩ | ⟨h1, h2⟩⟩ := hw
    · exact .inl ⟨D, s, h1, h2⟩
    · exact .inr h2
namespace diskPlays
theorem own : ownKnob Try.prog.godebug = none := by kernel_rfl
theorem laidOut : laidOutB Try.prog = true := by kernel_rfl
theorem contract (H : Type) (enc : TypeId × Value → H) (W : World) (base : Nat) (args : Array Value) (ds gs : List (DataW H)) (before : List MemPlace)
    (hval : ∀ (j : Nat) t v, Try.f3.params[j]? = some t → args[j]? = some v → Value.okWide Try.prog W .any base t v)
    (hW : DataW.Whole enc Try.prog Try.f3.params.toList Rows.diskPlaysSpec.vars false W args.toList ds gs before)
    (hz : (DataW.weightsEach Try.prog (Try.f3.params.toList ++ Rows.diskPlaysSpec.plain.varTypes Try.prog) (ds ++ gs)).all (· ≤ reachBytes) = true) :
    Calls Try.prog 3 args W fun e W' => ∃ v, e = .returned v ∧ Rows.diskPlaysSpec.post enc Try.prog Try.f3 false true false false W args v W' := by
  have hW' := hW
  obtain ⟨p, q, hA0, hV, rfl, hfz, hnd⟩ := hW
  have hA : DataW.TrodAll enc Try.prog W 0 (fun _ => true) true Try.f3.params.toList args.toList ds p := hA0
  rw [Try.params3] at hA hval hz
  obtain ⟨v0, vs0, d0, ds0, p0, q0, hargs, rfl, rfl, h0, r0⟩ := trodAll_cons hA
  obtain ⟨v1, vs1, d1, ds1, p1, q1, rfl, rfl, rfl, h1, r1⟩ := trodAll_cons r0
  obtain ⟨rfl, rfl, rfl⟩ := trodAll_nil r1
  obtain rfl : args = #[v0, v1] := by cases args; simp_all
  obtain ⟨rfl, rfl⟩ := trodVars_none hV
  obtain ⟨a0, rfl, rfl, rfl, w0⟩ := open_int Try.underlying3 (hval 0 3 v0 rfl rfl) h0
  have ha0 : i64 a0 := by simpa [Lit.wf, IntKind.min, IntKind.max, IntKind.signed, IntKind.bits, i64] using w0
  obtain ⟨sa, sl, sc, rfl⟩ := okWide_slice Try.underlying22 (hval 1 22 v1 rfl rfl)
  have h1k := h1
  obtain ⟨fuel, h1⟩ := h1
  have h1' : DataW.trod enc Try.prog W 0 (fun _ => true) true fuel 22 [Value.slice sa sl sc] = some (d1, p1) := h1
  obtain ⟨sp, len, cap, n, C, D, spare, hv, hx, hr, hi⟩ := trod_rds (e := 35) (by omega) h1'
  obtain ⟨g, hg⟩ := choose_lt (α := OpD) (p := fun i o => C i = o.cells ∧ (i64 o.kind ∧ i64 o.at_ ∧ i64 o.n ∧ o.keep.oneCell' = true ∧ RdS 1 o.keep (ints o.ks) (hpOf W)) ∧
      ∃ a b c d k : DataW H, D i = .agg [a, b, c, d, k] ∧ ((∃ D s, k = .slice D s ∧ D.length = o.ks.length) ∨ o.ks.length = 0)) (n := len) (fun i hlt => by
    obtain ⟨h1, pl, h2⟩ := hi i hlt
    obtain ⟨o, e, h3, h4, h5, h6, h7, h8⟩ := op_open h1 h2
    exact ⟨o, e, ⟨h3, h4, h5, h6, h7⟩, h8⟩)
  have ecs : ∀ k, k ≤ len → (List.range k).flatMap C = opCells ((List.range k).map g) := by
    intro k
    induction k with
    | zero => intro _; rfl
    | succ k ih => intro hk; rw [List.range_succ, List.flatMap_append, ih (by omega)]; simp [opCells, (hg k (by omega)).1]
  rw [ecs len (Nat.le_refl _)] at hr
  simp only at hx
  have hsz1 := fun (e : TypeId) (elems spare : List (DataW H)) hd hu => sized_slice (e := e) (elems := elems) (spare := spare) hz (j := 1) (t := 22) rfl hd hu
  have hlen : len ≤ 1000000000000000 := by
    rcases hx with hx | ⟨_, hx⟩
    · have := hsz1 35 _ spare (by simp only [List.append_nil, List.getElem?_cons_succ, List.getElem?_cons_zero]; rw [hx]) Try.underlying22
      have eb : Try.prog.bytesOf 35 = 56 := bytesOf_ty
      rw [eb] at this
      simp only [reachBytes, List.length_map, List.length_range] at this
      omega
    · omega
  have hok : ∀ o ∈ (List.range len).map g, o.ok := by
    intro o ho
    obtain ⟨i, hi', rfl⟩ := List.mem_map.1 ho
    have hi'' := List.mem_range.1 hi'
    obtain ⟨_, ⟨h3, h4, h5, h6, _⟩, a, b, c, d, k, hD, hk⟩ := hg i hi''
    refine ⟨h3, h4, h5, h6, ?_⟩
    rcases hk with ⟨Dk, s, rfl, hkl⟩ | h0
    · rcases hx with hx | ⟨_, hx⟩
      · have hmem : (Dk.length + s.length) * Try.prog.bytesOf 3 ∈ DataW.weightsEach Try.prog [3, 22] [DataW.lit (.int .i64 a0), d1] := by
          refine DataW.weights_mem_each (j := 1) (t := 22) (d := d1) rfl rfl _ ?_
          rw [hx]
          simp only [DataW.weights, Try.underlying22, List.mem_cons, List.mem_append]
          refine .inr (.inl (weights_mem_all (d := D i) (List.mem_map.2 ⟨i, hi', rfl⟩) _ ?_))
          rw [hD]
          simp only [DataW.weights, Try.underlying35]
          refine DataW.weights_mem_each (j := 4) (t := 33) (d := .slice Dk s) rfl rfl _ ?_
          simp only [DataW.weights, Try.underlying33, List.mem_cons, true_or]
        have hz' : (DataW.weightsEach Try.prog [3, 22] [DataW.lit (.int .i64 a0), d1]).all (· ≤ reachBytes) = true := hz
        have := List.all_eq_true.1 hz' _ hmem
        have eb : Try.prog.bytesOf 3 = 8 := bytesOf_ty
        rw [eb, hkl] at this
        have h9 := of_decide_eq_true this
        simp only [reachBytes] at h9
        omega
      · omega
    · omega
  have hops : OpsF (.slice sa sl sc) ((List.range len).map g) (hpOf W) := by
    refine ⟨hr, fun o ho => ?_⟩
    obtain ⟨i, hi', rfl⟩ := List.mem_map.1 ho
    exact (hg i (List.mem_range.1 hi')).2.1.2.2.2.2
  have hdoes := plays_does a0 (.slice sa sl sc) ((List.range len).map g) ha0 hok (by simpa using hlen)
  clear hA0
  simp only [List.append_nil, List.nil_append] at hW' h1k
  refine (does_run hdoes W hops).mono fun e W' ⟨he, hb⟩ => ?_
  have hlt : ∀ x ∈ p1, x.block < W.heap.size := fun x hx => by simpa using hW'.lt x hx
  subst he
  exact ⟨_, rfl, post_of_kept (pa := p1) (pv := []) hW' (fun _ _ _ => trodAll_mk1 (shut_bool Try.underlying4 _))
    (fun sp hsp => trodAll_mk2 (shut_int Try.underlying3 w0) (WideElems.Trod_stays laidOut (by kernel_rfl) (of_decide_eq_true (by kernel_rfl)) h1k (fun x hx => hb.same (hlt x hx)) (fun x hx => hsp x hx)))
    (fun _ _ => rfl) (by simp) hb (ok_one (by kernel_rfl) rfl (okWide_bool_mk Try.underlying4 _))⟩
set_option maxRecDepth 100000 in
theorem lifted (os : Os) (started : os.Started) (H : Type) (enc : TypeId × Value → H) :
    ReturnsInHanded {} Try.checked os 3 .any (Rows.diskPlaysSpec.pre6 enc Try.prog Try.f3 Rows.diskPlaysRow.domain false) (Rows.diskPlaysSpec.post enc Try.prog Try.f3 false true false false) := by
  refine returnsInHanded_of_change_sized (C := Try.checked) own started (by kernel_rfl) Try.func3
    (ChangeSpec.witness6 (enc := enc) (C := Try.checked) false ⟨#[], #[.int .i64 0, .slice none 0 0], []⟩ 8 (by kernel_rfl) (by kernel_rfl) (by kernel_rfl) (by kernel_rfl)) ?_
  intro W base args ds gs before hval hW _ hz _
  exact contract H enc W base args ds gs before hval hW hz
theorem proved : Rows.DiskPlaysSaid :=
  OpenClaim.holds_of_wide 3 Try.f3 rfl rfl rfl rfl rfl rfl rfl ⟨rfl, rfl, rfl, rfl, rfl⟩ rfl rfl rfl rfl rfl (by kernel_rfl) Try.func3 (by kernel_rfl)
    (of_decide_eq_true (by kernel_rfl)) (by unfold Func.isWrapper; first | (rw [if_pos (by decide +kernel)]; kernel_rfl) | (rw [if_neg (by decide +kernel)]; exact ⟨rfl, rfl⟩))
    (fun os started H enc _ => lifted os started H enc)
end diskPlays
end Go.Proofs.Ytjnbanjmehkifaa
