/- HouseNone: a nil house is down and has nothing; this text: part 9 of the proof, no condition. -/
import Derived.Test.YtaoepimoakcdaaaGreatAl8
import Derived.ProofKit
import Derived.Carry
import Derived.ChangeSame
import Derived.JoinedOf
import Derived.JoinedAt
import Derived.RowKit3
import Derived.Test.YtaoepimoakcdaaaGreatRows
namespace Go.Proofs.YtaoepimoakcdaaaGreat
open Go Go.Proofs Go.Al Go.ChangeShapes Go.WideShapes Go.ChangeAt Go.RowKit
theorem own_none : ownKnob Tryz.prog.godebug = none := by kernel_rfl
theorem laid_out : laidOutB Tryz.prog = true := by kernel_rfl
theorem fr_kept {w w' : World} (h : Fr w w') (may : MemPlace → Prop) : w.keptBut w' may := by
  refine ⟨h.os, h.output, fun i hi => ?_⟩
  rw [h.same i hi fun h => h]
  split <;> simp_all
theorem fr_trod {H : Type} {enc : TypeId × Value → H} {t : TypeId} (hr : Tryz.prog.readableRec t = true) (hrow : t < Tryz.prog.types.size) {W W' : World} {v : Value} {d : DataW H} {ps : List MemPlace}
    (h : DataW.Trod enc Tryz.prog W 0 (fun _ => true) true t v d ps) (hf : Fr W W') (hlt : ∀ x ∈ ps, x.block < W.heap.size) :
    DataW.Trod enc Tryz.prog W' 0 (fun b => decide (b < W.heap.size)) true t v d ps :=
  WideElems.Trod_stays laid_out hr hrow h (fun x hx => by
    have hb := hlt x hx
    have e := hf.same x.block hb fun h => h
    cases x with
    | cell b o => exact World.cell?_of_block (w := W) e
    | map b => exact e) (fun x hx => by simpa using hlt x hx)
theorem act_cells : Tryz.prog.cellTypes Tryz.prog.depth 32 = some [5, 3, 3, 3, 3, 3, 3, 9] := by kernel_rfl
theorem act_size : Tryz.prog.cellsOf 32 = 8 := by kernel_rfl
theorem act_struct : Tryz.prog.underlying 32 = some (.struct (Tryz.prog.fieldsOf 32)) := by kernel_rfl
section
variable {Q : Program} {w : World} {r : Reach} {b : Nat} {t : TypeId} {v : Value}
theorem cell_int {k : IntKind} (ht : Q.underlying t = some (.int k)) (h : Cell.okWide Q w r b t v) : ∃ n, v = .int k n ∧ k.has n := by
  simp only [Cell.okWide, ht] at h
  cases v <;> simp_all [Cell.ok]
theorem cell_string (ht : Q.underlying t = some .string) (h : Cell.okWide Q w r b t v) : ∃ s : ByteArray, v = .string s ∧ (s.size : Int) ≤ IntKind.i64.max := by
  simp only [Cell.okWide, ht] at h
  cases v <;> simp_all [Cell.ok]
theorem row_cells {fs : Array Field} {us : List TypeId} (hs : Q.underlying t = some (.struct fs)) (hc : Q.cellTypes Q.depth t = some us) (hz : Q.cellsOf t = us.length) (h : Value.okWide Q w r b t v) :
    ∃ l : List Value, v = .agg l.toArray ∧ l.length = us.length ∧ ∀ (i : Nat) (c : Value) (u : TypeId), l[i]? = some c → us[i]? = some u → Cell.okWide Q w r b u c := by
  unfold Value.okWide at h
  rw [hs] at h
  obtain ⟨cs, rfl, hsz, ts, hts, _, hall⟩ := h
  have e : ts = us := Option.some.inj (hts.symm.trans hc)
  subst e
  have hl : cs.toList.length = ts.length := by rw [Array.length_toList, hsz, hz]
  refine ⟨cs.toList, by simp, hl, fun i c u h1 h2 => ?_⟩
  obtain ⟨u', h3, h4⟩ := hall i c (by rw [← Array.getElem?_toList]; exact h1)
  have hi : i < ts.length := (List.getElem?_eq_some_iff.1 h2).1
  rw [Nat.mod_eq_of_lt hi, h2] at h3
  cases h3
  exact h4
theorem act_open_gen {fs : Array Field} {u8 ui us : TypeId} (hs : Q.underlying t = some (.struct fs)) (hc : Q.cellTypes Q.depth t = some [u8, ui, ui, ui, ui, ui, ui, us]) (hz : Q.cellsOf t = 8)
    (h8 : Q.underlying u8 = some (.int .u8)) (hi : Q.underlying ui = some (.int .i64)) (hst : Q.underlying us = some .string) (h : Value.okWide Q w r b t v) : ∃ a : ActM, v = a.val := by
  obtain ⟨l, rfl, hl, g⟩ := row_cells hs hc hz h
  obtain ⟨c0, c1, c2, c3, c4, c5, c6, c7, rfl⟩ : ∃ c0 c1 c2 c3 c4 c5 c6 c7, l = [c0, c1, c2, c3, c4, c5, c6, c7] := by
    match l, hl with
    | [a0, a1, a2, a3, a4, a5, a6, a7], _ => exact ⟨a0, a1, a2, a3, a4, a5, a6, a7, rfl⟩
  obtain ⟨n0, rfl, _⟩ := cell_int h8 (g 0 c0 u8 rfl rfl)
  obtain ⟨n1, rfl, _⟩ := cell_int hi (g 1 c1 ui rfl rfl)
  obtain ⟨n2, rfl, _⟩ := cell_int hi (g 2 c2 ui rfl rfl)
  obtain ⟨n3, rfl, _⟩ := cell_int hi (g 3 c3 ui rfl rfl)
  obtain ⟨n4, rfl, _⟩ := cell_int hi (g 4 c4 ui rfl rfl)
  obtain ⟨n5, rfl, _⟩ := cell_int hi (g 5 c5 ui rfl rfl)
  obtain ⟨n6, rfl, _⟩ := cell_int hi (g 6 c6 ui rfl rfl)
  obtain ⟨s, rfl, _⟩ := cell_string hst (g 7 c7 us rfl rfl)
  refine ⟨⟨n0, n1, n2, n3, n4, ⟨n5, n6, s.data.toList⟩⟩, ?_⟩
  unfold ActM.val ActM.cells
  simp
end
theorem u_int : Tryz.prog.underlying 3 = some (.int .i64) := by kernel_rfl
theorem u_uint8 : Tryz.prog.underlying 5 = some (.int .u8) := by kernel_rfl
theorem u_string : Tryz.prog.underlying 9 = some .string := by kernel_rfl
theorem u_bool : Tryz.prog.underlying 4 = some .bool := by kernel_rfl
set_option maxRecDepth 100000 in
theorem act_open {w : World} {r : Reach} {b : Nat} {v : Value} (h : Value.okWide Tryz.prog w r b 32 v) : ∃ a : ActM, v = a.val :=
  act_open_gen act_struct act_cells act_size u_uint8 u_int u_string h
set_option maxHeartbeats 1600000 in
set_option maxRecDepth 100000 in
theorem houseNone_lifted (os : Os) (started : os.Started) (H : Type) (enc : TypeId × Value → H) :
    ReturnsInHanded {} Tryz.checked os 5 .any (Rows.houseNoneSpec.pre6 enc Tryz.prog Tryz.f5 Rows.houseNoneRow.domain false) (Rows.houseNoneSpec.post enc Tryz.prog Tryz.f5 false Rows.houseNoneRow.fresh Rows.houseNoneRow.handsOn Rows.houseNoneRow.again) := by
  refine returnsInHanded_of_change (C := Tryz.checked) own_none started (by kernel_rfl) Tryz.func5
    (ChangeSpec.witness6 (enc := enc) (C := Tryz.checked) false ⟨#[], #[.agg #[.int .u8 0, .int .i64 0, .int .i64 0, .int .i64 0, .int .i64 0, .int .i64 0, .int .i64 0, .string ⟨#[]⟩]], []⟩ 8 (by kernel_rfl) (by kernel_rfl) (by kernel_rfl) (by kernel_rfl)) ?_
  intro W base args ds gs before hval0 hW _ _
  have hval : ∀ (j : Nat) t v, Tryz.f5.params[j]? = some t → args[j]? = some v → Value.okWide Tryz.prog W .any base t v := hval0
  have hW' := hW
  obtain ⟨p, q, hA0, hV, rfl, _, _⟩ := hW
  have hA : DataW.TrodAll enc Tryz.prog W 0 (fun _ => true) true Tryz.f5.params.toList args.toList ds p := hA0
  rw [Tryz.params5] at hA hval
  obtain ⟨v0, d0, rfl, rfl, h0⟩ := trodAll_one hA
  obtain ⟨rfl, rfl⟩ := trodVars_none hV
  obtain ⟨a, rfl⟩ := act_open (hval 0 32 v0 rfl rfl)
  have hlt : ∀ x ∈ p, x.block < W.heap.size := fun x hx => hW'.lt x (List.mem_append_left _ hx)
  have walk : pCall P 5 [a.val] (fun v W' => v = .bool true ∧ Fr W W') W := Law21_None fun W' hf => ⟨rfl, hf⟩
  unfold pCall at walk
  refine walk.2.mono fun e W' he => ?_
  cases e with
  | returned v =>
    obtain ⟨rfl, hf⟩ := he
    refine ⟨_, rfl, ?_⟩
    have hr : DataW.Trod enc Tryz.prog W' 0 (fun b => decide (b < W.heap.size)) true 32 a.val d0 p := fr_trod (by kernel_rfl) (of_decide_eq_true (by kernel_rfl)) h0 hf hlt
    refine ⟨[d0], [], p ++ [], [], p, [], hW', ?_, ?_, ?_, fr_kept hf _, fun h => by cases h⟩
    · exact trodAll_mk1 (shut_bool u_bool true)
    · exact trodAll_mk1 hr
    · exact rfl
  | panicked _ => exact he.elim
  | outgrown => exact he.elim
end Go.Proofs.YtaoepimoakcdaaaGreat
