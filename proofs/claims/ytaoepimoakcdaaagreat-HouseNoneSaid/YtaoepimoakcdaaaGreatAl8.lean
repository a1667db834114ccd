/- HouseNone: a nil house is down and has nothing; this text: part 8 of the proof, no condition. -/
import Derived.Test.YtaoepimoakcdaaaGreatAl7
import Derived.Laws.StructEq
namespace Go.Al
open Go Go.Proofs
def sDrain (a : ArrM) (s : StoreM) : SOut :=
  match s.wait with
  | [] => ⟨0, a, s⟩
  | x :: r => if (sPut a s x).e ≠ 0 then sPut a s x else ⟨0, (sPut a s x).a, { (sPut a s x).s with wait := r }⟩
def sChange (a : ArrM) (s : StoreM) (x : ChM) : SOut :=
  if s.placeE x.place ≠ 0 then ⟨s.placeE x.place, a, s⟩ else
  if 16 < x.data.length then ⟨3, a, s⟩ else
  if s.only then ⟨13, a, s⟩ else
  let d : SOut := if s.wait.length = 4 then sDrain a s else ⟨0, a, s⟩
  if d.e ≠ 0 then d else ⟨(bufPut d.s.wait x).1, d.a, { d.s with wait := (bufPut d.s.wait x).2 }⟩
def sWrite (a : ArrM) (s : StoreM) (p : Int) (d : List UInt8) : SOut := sChange a s ⟨p, 1, d⟩
def sTrim (a : ArrM) (s : StoreM) (p : Int) : SOut := sChange a s ⟨p, 2, []⟩
def flushGo : Nat → ArrM → StoreM → SOut
  | 0, a, s => ⟨0, a, s⟩
  | n + 1, a, s => if s.wait = [] then ⟨0, a, s⟩ else if (sDrain a s).e ≠ 0 then sDrain a s else flushGo n (sDrain a s).a (sDrain a s).s
def sFlush (a : ArrM) (s : StoreM) : SOut := if s.only then ⟨13, a, s⟩ else flushGo (s.wait.length + 1) a s
structure ReadM where
  data : List UInt8
  e : Int
def sRead (a : ArrM) (s : StoreM) (p : Int) : ReadM :=
  if s.placeE p ≠ 0 then ⟨[], s.placeE p⟩ else
  match bufLast s.wait p with
  | some x => ⟨x.data, 0⟩
  | none => match s.tab.at p with
    | none => ⟨[], 0⟩
    | some (b, q) => if (scanOne a s.ent.blocks b q).e ≠ 0 ∨ (scanOne a s.ent.blocks b q).f.tag.kind = 2 then ⟨[], (scanOne a s.ent.blocks b q).e⟩ else ⟨(scanOne a s.ent.blocks b q).f.data, 0⟩
/-- The same, of an operation that changes what waits. -/
structure SOp (a : ArrM) (s : StoreM) (r : SOut) : Prop where
  g : r.a.g = a.g
  len : r.a.bl.length = a.bl.length
  good : r.a.good ≤ a.good
  who : r.s.who = s.who
  ent : r.s.ent = s.ent
  inv : SInv r.a r.s
theorem SStep.op {b : Int} {a : ArrM} {s : StoreM} {r : SOut} (h : SStep b a s r) : SOp a s r := ⟨h.g, h.len, h.good, h.like.who, h.like.ent, h.inv⟩
theorem SInv.wait {a : ArrM} {s : StoreM} (h : SInv a s) (l : List ChM) : SInv a { s with wait := l } := ⟨⟨h.ok.len, h.ok.front, h.ok.spare⟩, h.nodup, h.spares, h.front⟩
theorem SOp.refl {a : ArrM} {s : StoreM} (h : SInv a s) (e : Int) : SOp a s ⟨e, a, s⟩ := ⟨rfl, rfl, Nat.le_refl _, rfl, rfl, h⟩
theorem SOp.wait {a : ArrM} {s : StoreM} {r : SOut} (h : SOp a s r) (e : Int) (l : List ChM) : SOp a s ⟨e, r.a, { r.s with wait := l }⟩ := ⟨h.g, h.len, h.good, h.who, h.ent, h.inv.wait l⟩
theorem sDrain_op {a : ArrM} {s : StoreM} (h : SInv a s) : SOp a s (sDrain a s) := by
  unfold sDrain
  split
  · exact SOp.refl h 0
  · rename_i x r _
    have hp := (putGo_step (x := x) (a.good + 1) a s h).op
    split
    · exact hp
    · exact SOp.wait hp 0 r
theorem sDrain_wait {a : ArrM} {s : StoreM} (h : SInv a s) (he : (sDrain a s).e = 0) : (sDrain a s).s.wait = s.wait.tail := by
  unfold sDrain at he ⊢
  split at he
  · rename_i hw; rw [hw]; simp [hw]
  · rename_i x r hw
    rw [hw]
    simp only
    split at he
    · rename_i g; exact absurd he g
    · rename_i g; rw [if_neg g]; rfl
section
variable {w : World} {γ : Col} {A : ArrA} {c b : Nat} {a : ArrM} {s : StoreM} {K : Value → World → Prop}
theorem Store_drain (h : SRep w γ A c b a s) (hi : SInv a s)
    (k : ∀ w' γ', Keep (opC c) w γ w' γ' → SRep w' γ' A c b (sDrain a s).a (sDrain a s).s → K (i64 (sDrain a s).e) w') :
    pCall P 166 [ptr b 0] K w := by
  refine c166 ?_
  unfold G166
  unfold sDrain at k
  obtain ⟨bv, tb, wb, h3, h4, h5, h6, h7⟩ := h.st.mem
  simp
  refine pLd1 h3 lay_172 (v := ptr wb 0) rfl ?_
  refine Buffer_First h.wf h7 ?_ ?_
  · intro w1 hf1 hnil
    simp
    simp only [hnil] at k
    refine pAlloc_of ChM.zero.cells (by kernel_rfl : zeroP P 176 = some ChM.zero.val) rfl fun vb w2 hvb hvbl hf2 h2 => ?_
    refine pStAll h2 rfl lay_176 (vs := ChM.zero.cells) (by simp [ChM.val]) rfl rfl fun w3 hc3 h3' => ?_
    have s1 := hf1.size
    have hf03 : Fr w w3 := Ch.trans' (hf1.trans hf2) (by omega) hc3
    rw [pIf_bool, if_pos rfl]
    exact k w3 γ (hf03.keepS h) (h.fr hf03)
  · intro w1 x r hf1 hcons
    simp
    simp only [hcons] at k
    refine pAlloc_of ChM.zero.cells (by kernel_rfl : zeroP P 176 = some ChM.zero.val) rfl fun vb w2 hvb hvbl hf2 h2 => ?_
    refine pStAll h2 rfl lay_176 (vs := x.cells) (by simp [ChM.val]) rfl rfl fun w3 hc3 h3' => ?_
    have s1 := hf1.size
    have hf03 : Fr w w3 := Ch.trans' (hf1.trans hf2) (by omega) hc3
    rw [pIf_bool, if_neg Bool.false_ne_true]
    refine pLdAll h3' lay_176 rfl ?_
    have hst := putGo_step (x := x) (a.good + 1) a s hi
    refine Store_put (h.fr hf03) hi fun w4 γ4 hk4 h4 => ?_
    have hst : SStep 0 a s (sPut a s x) := hst
    obtain ⟨q, hq⟩ : ∃ q, q = sPut a s x := ⟨_, rfl⟩
    rw [← hq] at k h4 hst ⊢
    have hk04 := (hf03.keepS (C := opC c) h).trans hk4 fun _ h => h
    simp only [binV_neq, pVal_some, pIf_bool, Bool.not_eq_true', decide_eq_false_iff_not]
    by_cases g : q.e = 0
    rotate_left
    · rw [if_pos g]
      simp only [if_pos g] at k
      exact k w4 γ4 hk04 h4
    rw [if_neg (by simpa using g)]
    simp only [ne_eq, g, not_true, if_false] at k
    obtain ⟨bv, tb, wb, p3, p4, p5, p6, p7, _, pwait, _⟩ := h4.parts
    try simp
    refine pLd1 p3 lay_172 (v := ptr wb 0) rfl ?_
    rw [hst.like.wait, hcons] at p7
    refine Buffer_Drop h4.wf p7 fun w5 hk5 hb5 => ?_
    obtain ⟨hko, h5⟩ := pwait w5 r hk5 hb5
    exact k w5 γ4 (hk04.trans hko fun _ h => h) h5
theorem Store_change {x : ChM} (h : SRep w γ A c b a s) (hi : SInv a s)
    (k : ∀ w' γ', Keep (opC c) w γ w' γ' → SRep w' γ' A c b (sChange a s x).a (sChange a s x).s → K (i64 (sChange a s x).e) w') :
    pCall P 169 [ptr b 0, x.val] K w := by
  refine c169 ?_
  unfold G169
  have hbig := h.st.big
  refine pNew_of x.cells (by simp [ChM.val]) fun vb w1 hvb hvbl hf1 h1v => ?_
  have h1 := h.fr hf1
  have hvb0 : γ vb = 0 := h.wf vb (by omega)
  have hk1 : Keep (opC c) w γ w1 γ := hf1.keepS h
  unfold sChange at k
  simp
  refine pLd1 h1v lay_3 (v := i64 x.place) rfl ?_
  refine Store_place h1 ?_
  simp only [binV_neq, pVal_some, pIf_bool, Bool.not_eq_true', decide_eq_false_iff_not]
  by_cases g1 : s.placeE x.place = 0
  rotate_left
  · rw [if_pos g1]
    simp only [if_pos g1] at k
    exact k w1 γ hk1 h1
  rw [if_neg (by simpa using g1)]
  simp only [ne_eq, g1, not_true, if_false] at k
  try simp
  refine pLd1 h1v lay_9 (v := sV x.data) rfl ?_
  rw [lenBV_string (by simp), pVal_some]
  have hsz : (⟨x.data.toArray⟩ : ByteArray).size = x.data.length := rfl
  rw [hsz]
  simp only [binV_gtr, pVal_some, pIf_bool, decide_eq_true_eq]
  by_cases g2 : 16 < x.data.length
  · rw [if_pos (by omega)]
    simp only [if_pos g2] at k
    exact k w1 γ hk1 h1
  rw [if_neg (by omega)]
  simp only [if_neg g2] at k
  obtain ⟨bv, tb, wb, h3, h4, h5, h6, h7⟩ := h1.st.mem
  try simp
  refine pLd1 h3 lay_4 (v := .bool s.only) rfl ?_
  rw [pIf_bool]
  by_cases g3 : s.only = true
  · rw [if_pos g3]
    simp only [if_pos g3] at k
    exact k w1 γ hk1 h1
  rw [if_neg g3]
  simp only [if_neg g3] at k
  obtain ⟨d, hd⟩ : ∃ d : SOut, d = if s.wait.length = 4 then sDrain a s else ⟨0, a, s⟩ := ⟨_, rfl⟩
  rw [← hd] at k
  refine join0 (fun w' => ∃ γ', Keep (opC c) w1 γ w' γ' ∧ SRep w' γ' A c b d.a d.s ∧ d.e = 0) ?_ ?_
  rotate_left
  · intro J hJ
    try simp
    refine pLd1 h3 lay_172 (v := ptr wb 0) rfl ?_
    refine Buffer_Full h7 ?_
    rw [pIf_bool]
    by_cases g4 : s.wait.length = 4
    rotate_left
    · rw [decide_eq_false g4, if_neg Bool.false_ne_true]
      rw [if_neg g4] at hd
      refine hJ _ ⟨γ, Keep.refl h1.wf, ?_, ?_⟩
      · rw [hd]; exact h1
      · rw [hd]
    rw [decide_eq_true g4, if_pos rfl]
    rw [if_pos g4] at hd
    refine Store_drain h1 hi fun w2 γ2 hk2 h2 => ?_
    rw [← hd] at h2 ⊢
    simp only [binV_neq, pVal_some, pIf_bool, Bool.not_eq_true', decide_eq_false_iff_not]
    by_cases g5 : d.e = 0
    rotate_left
    · rw [if_pos g5]
      simp only [if_pos g5] at k
      exact k w2 γ2 (hk1.trans hk2 fun _ h => h) h2
    rw [if_neg (by simpa using g5)]
    exact hJ _ ⟨γ2, hk2, h2, g5⟩
  rintro w2 ⟨γ2, hk2, h2, ge⟩
  simp only [ne_eq, ge, not_true, if_false] at k
  have hv2 : Blk w2 vb 176 x.cells := hk2.blk h1v (by rw [hvb0]; exact opC0 c hbig)
  obtain ⟨bv, tb, wb, p3, p4, p5, p6, p7, _, pwait, _⟩ := h2.parts
  refine pDraw_fr (fun w' => Fr w2 w') fun w3 hf3 _ _ => ⟨hf3, ?_⟩
  try simp
  refine pHld1 (fun w' hS => hS.blk p3 fun h => h) lay_172 (v := ptr wb 0) rfl ?_
  refine pHldN x.cells (fun w' hS => hS.blk hv2 fun h => h) lay_176 (by rw [ChM.len]; omega) (by rw [List.drop_zero, List.take_of_length_le (by rw [ChM.len]; omega)]) ?_
  have hk23 : Keep (fun y => y = c + 2) w2 γ2 w3 γ2 := hf3.keepS h2
  refine Buffer_Put (x := x) (h2.fr hf3).wf (by omega) (p7.keep (hf3.keepS (C := fun _ => False) h2) fun h => h) fun w4 hk4 hb4 => ?_
  obtain ⟨hko, h4⟩ := pwait w4 _ (hk23.trans hk4 fun _ h => h) hb4
  exact k w4 γ2 ((hk1.trans hk2 fun _ h => h).trans hko fun _ h => h) h4
theorem change_build (p k : Int) (d : List UInt8) : buildV P 176 [(0, i64 p), (1, i64 k), (2, sV d)] = some (ChM.val ⟨p, k, d⟩) := by
  simp [buildV_app, fillL, fillA, splice, ChM.val, ChM.cells]
theorem change_build2 (p k : Int) : buildV P 176 [(0, i64 p), (1, i64 k)] = some (ChM.val ⟨p, k, []⟩) := by
  simp [buildV_app, fillL, fillA, splice, ChM.val, ChM.cells]
theorem Store_Write {p : Int} {d : List UInt8} (h : SRep w γ A c b a s) (hi : SInv a s)
    (k : ∀ w' γ', Keep (opC c) w γ w' γ' → SRep w' γ' A c b (sWrite a s p d).a (sWrite a s p d).s → K (i64 (sWrite a s p d).e) w') :
    pCall P 144 [ptr b 0, i64 p, sV d] K w := by
  refine c144 ?_
  unfold G144
  rw [change_build, pVal_some]
  exact Store_change h hi k
theorem Store_Trim {p : Int} (h : SRep w γ A c b a s) (hi : SInv a s)
    (k : ∀ w' γ', Keep (opC c) w γ w' γ' → SRep w' γ' A c b (sTrim a s p).a (sTrim a s p).s → K (i64 (sTrim a s p).e) w') :
    pCall P 145 [ptr b 0, i64 p] K w := by
  refine c145 ?_
  unfold G145
  rw [change_build2, pVal_some]
  exact Store_change h hi k
theorem Store_Flush (h : SRep w γ A c b a s) (hi : SInv a s)
    (k : ∀ w' γ', Keep (opC c) w γ w' γ' → SRep w' γ' A c b (sFlush a s).a (sFlush a s).s → K (i64 (sFlush a s).e) w') :
    pCall P 136 [ptr b 0] K w := by
  refine c136 ?_
  unfold G136
  unfold sFlush at k
  rw [binV_ptr_eql (by simp), pVal_some, pIf_bool]
  simp only [Option.isNone_some, Bool.false_eq_true, if_false]
  obtain ⟨bv, tb, wb, h3, h4, h5, h6, h7⟩ := h.st.mem
  simp
  refine pLd1 h3 lay_4 (v := .bool s.only) rfl ?_
  rw [pIf_bool]
  by_cases g : s.only = true
  · rw [if_pos g]
    simp only [if_pos g] at k
    exact k w γ (Keep.refl h.wf) h
  rw [if_neg g]
  simp only [if_neg g] at k
  obtain ⟨R, hR⟩ : ∃ R, R = flushGo (s.wait.length + 1) a s := ⟨_, rfl⟩
  rw [← hR] at k
  refine loop0_fuel (fun n w' => ∃ γ' a' s', Keep (opC c) w γ w' γ' ∧ SRep w' γ' A c b a' s' ∧ SInv a' s' ∧ s'.wait.length < n ∧ R = flushGo n a' s') (s.wait.length + 1) ?_ ?_
  · exact ⟨γ, a, s, Keep.refl h.wf, h, hi, by omega, hR⟩
  rintro n w2 ag hag ⟨γ2, a2, s2, hk2, h2, hi2, hn, heq⟩
  obtain ⟨m, rfl⟩ : ∃ m, n = m + 1 := ⟨n - 1, by omega⟩
  unfold flushGo at heq
  obtain ⟨bv, tb, wb, p3, p4, p5, p6, p7⟩ := h2.st.mem
  try simp
  refine pLd1 p3 lay_172 (v := ptr wb 0) rfl ?_
  refine Buffer_Len p7 ?_
  simp only [binV_gtr, pVal_some, pIf_bool, decide_eq_true_eq]
  by_cases gw : s2.wait = []
  · rw [if_neg (by rw [gw]; simp)]
    rw [if_pos gw] at heq
    rw [heq] at k
    exact k w2 γ2 hk2 h2
  have hwl : 0 < s2.wait.length := List.length_pos_iff.2 gw
  rw [if_pos (by omega)]
  rw [if_neg gw] at heq
  refine Store_drain h2 hi2 fun w3 γ3 hk3 h3 => ?_
  have hop := sDrain_op hi2
  have hwt := sDrain_wait hi2
  obtain ⟨d, hd⟩ : ∃ d, d = sDrain a2 s2 := ⟨_, rfl⟩
  rw [← hd] at heq h3 hop hwt ⊢
  have hk03 := hk2.trans hk3 fun _ h => h
  simp only [binV_neq, pVal_some, pIf_bool, Bool.not_eq_true', decide_eq_false_iff_not]
  by_cases g5 : d.e = 0
  rotate_left
  · rw [if_pos g5]
    rw [if_pos g5] at heq
    rw [heq] at k
    exact k w3 γ3 hk03 h3
  rw [if_neg (by simpa using g5)]
  rw [if_neg (by simpa using g5)] at heq
  have := hwt g5
  exact hag m w3 (by omega) ⟨γ3, _, _, hk03, h3, hop.inv, by rw [this, List.length_tail]; omega, heq⟩
theorem Store_Read {p : Int} (h : SRep w γ A c b a s)
    (k : ∀ w', Fr w w' → K (.tuple #[sV (sRead a s p).data, i64 (sRead a s p).e]) w') : pCall P 62 [ptr b 0, i64 p] K w := by
  refine c62 ?_
  unfold G62
  unfold sRead at k
  refine Store_place h ?_
  simp only [binV_neq, pVal_some, pIf_bool, Bool.not_eq_true', decide_eq_false_iff_not]
  by_cases g1 : s.placeE p = 0
  rotate_left
  · rw [if_pos g1]
    simp only [if_pos g1] at k
    exact k w (Ch.refl _ _)
  rw [if_neg (by simpa using g1)]
  simp only [ne_eq, g1, not_true, if_false] at k
  obtain ⟨bv, tb, wb, h3, h4, h5, h6, h7⟩ := h.st.mem
  simp
  refine pLd1 h3 lay_172 (v := ptr wb 0) rfl ?_
  refine Buffer_Last h.wf h7 ?_ ?_
  rotate_left
  · intro w1 x hf1 hx
    simp only [hx] at k
    simp
    refine pAlloc_of ChM.zero.cells (by kernel_rfl : zeroP P 176 = some ChM.zero.val) rfl fun vb w2 hvb hvbl hf2 h2 => ?_
    refine pStAll h2 rfl lay_176 (vs := x.cells) (by simp [ChM.val]) rfl rfl fun w3 hc3 h3' => ?_
    have s1 := hf1.size
    try simp
    refine pLd1 h3' lay_9 (v := sV x.data) rfl ?_
    exact k w3 (Ch.trans' (hf1.trans hf2) (by omega) hc3)
  · intro w1 hf1 hx
    simp only [hx] at k
    simp
    refine pAlloc_of ChM.zero.cells (by kernel_rfl : zeroP P 176 = some ChM.zero.val) rfl fun vb w2 hvb hvbl hf2 h2 => ?_
    refine pStAll h2 rfl lay_176 (vs := ChM.zero.cells) (by simp [ChM.val]) rfl rfl fun w3 hc3 h3' => ?_
    have s1 := hf1.size
    have hf03 : Fr w w3 := Ch.trans' (hf1.trans hf2) (by omega) hc3
    have h3s := h.fr hf03
    obtain ⟨bv, tb, wb, p3, p4, p5, p6, p7⟩ := h3s.st.mem
    try simp
    refine pLd1 p3 lay_171 (v := ptr tb 0) rfl ?_
    refine Table_At p6 fun w4 hf4 => ?_
    have hf04 := hf03.trans hf4
    have h4s := h.fr hf04
    cases hat : s.tab.at p with
    | none =>
      simp only [hat] at k
      simp [cS]
      exact k w4 hf04
    | some bq =>
      obtain ⟨q, pg⟩ := bq
      simp only [hat] at k
      simp [cS]
      have hl := h4s.st.ok.len
      obtain ⟨r, hr⟩ : ∃ r, r = scanOne a s.ent.blocks q pg := ⟨_, rfl⟩
      rw [← hr] at k
      refine join2 (fun x y w' => ∃ fb, x = ptr fb 0 ∧ y = i64 r.e ∧ w4.heap.size ≤ fb ∧ Fr w4 w' ∧ Blk w' fb 184 r.f.cells) ?_ ?_
      rotate_left
      · intro J hJ
        obtain ⟨bv, tb, wb, q3, q4, q5, q6, q7⟩ := h4s.st.mem
        refine pDraw_fr (fun w' => Fr w4 w') fun w5 hf5 _ _ => ⟨hf5, ?_⟩
        try simp
        refine pHld1 (fun w' hS => hS.blk q3 fun h => h) lay_58 rfl ?_
        refine pHld1 (fun w' hS => hS.blk q3 fun h => h) lay_24 (v := bv) rfl ?_
        rw [pAnd_app]
        constructor
        · refine Scan_One (h4s.fr hf5).wf (h4s.fr hf5).arr (q4.fr hf5) (by omega) fun w6 hf6 => ?_
          rw [pKeep_true]
          have hf46 := hf5.trans hf6
          refine ⟨hf46, ?_⟩
          rw [← hr]
          simp only [extractV_tuple, List.getElem?_toArray, List.getElem?_cons_zero, List.getElem?_cons_succ, pVal_some]
          refine pAlloc_of FoundM.zero.cells zero_found rfl fun fb w7 hfb hfbl hf7 h7' => ?_
          try rw [pKeep_true]
          try refine ⟨hf46.trans hf7, ?_⟩
          have s46 := hf46.size
          refine pStAll h7' rfl lay_184 (vs := r.f.cells) (by simp [FoundM.val]) rfl rfl fun w8 hc8 h8' => ?_
          exact hJ _ _ _ ⟨fb, rfl, rfl, by omega, Ch.trans' (hf46.trans hf7) (by omega) hc8, h8'⟩
        · refine pAlloc_of FoundM.zero.cells zero_found rfl fun fb w6 hfb hfbl hf6 h6' => ?_
          rw [pKeep_true]
          have hf46 := hf5.trans hf6
          refine ⟨hf46, ?_⟩
          refine Scan_One (h4s.fr hf46).wf (h4s.fr hf46).arr ((q4.fr hf5).fr hf6) (by omega) fun w7 hf7 => ?_
          rw [pKeep_true]
          have hf47 := hf46.trans hf7
          refine ⟨hf47, ?_⟩
          rw [← hr]
          simp only [extractV_tuple, List.getElem?_toArray, List.getElem?_cons_zero, List.getElem?_cons_succ, pVal_some]
          have s5 := hf5.size
          refine pStAll (hf7.blk h6' fun h => h) rfl lay_184 (vs := r.f.cells) (by simp [FoundM.val]) rfl rfl fun w8 hc8 h8' => ?_
          exact hJ _ _ _ ⟨fb, rfl, rfl, by omega, Ch.trans' hf47 (by omega) hc8, h8'⟩
      rintro _ _ w5 ⟨fb, rfl, rfl, hfb, hf5, h5f⟩
      have hf05 := hf04.trans hf5
      have k5 := k w5 hf05
      refine join0 (fun w' => w5 = w' ∧ ¬ (r.e ≠ 0 ∨ r.f.tag.kind = 2)) ?_ ?_
      rotate_left
      · intro J hJ
        simp only [binV_neq, pVal_some]
        by_cases ge : r.e = 0
        rotate_left
        · simp [ge]
          simp [ge] at k5
          exact k5
        simp [ge]
        refine pLd1 h5f lay_3 (v := i64 r.f.tag.kind) rfl ?_
        simp
        by_cases gk : r.f.tag.kind = 2
        · simp [gk]
          simp [ge, gk] at k5
          exact k5
        simp [gk]
        exact hJ _ ⟨rfl, by simp [ge, gk]⟩
      rintro _ ⟨rfl, g⟩
      rw [if_neg g] at k5
      try simp
      refine pLd1 h5f lay_9 (v := sV r.f.data) rfl ?_
      exact k5
end
end Go.Al

namespace Go.Al
open Go Go.Proofs
def tabNew (blocks pages : Int) : TableM := (⟨pages.toNat, List.replicate 64 none, [], []⟩ : TableM).grow blocks
def newBad (a : ArrM) (who : Int) (t : TenM) : Prop := who < 0 ∨ 4 ≤ who ∨ t.there = false ∨ (t.blocks.length : Int) < 1 ∨ 64 < (t.blocks.length : Int) ∨ a.g.pages < 2 ∨ 16 < a.g.pages
instance (a : ArrM) (who : Int) (t : TenM) : Decidable (newBad a who t) := by unfold newBad; infer_instance
def storeNew (a : ArrM) (who : Int) (t : TenM) : StoreM := ⟨who, t, tabNew t.blocks.length a.g.pages, [], 0, -1, false⟩
end Go.Al

namespace Go.Al
open Go Go.Proofs
/-- Blocks that have a colour keep it. -/
def Recol (γ γ' : Col) : Prop := ∀ q, γ q ≠ 0 → γ' q = γ q
theorem Recol.at {γ γ' : Col} (h : Recol γ γ') {q c : Nat} (hq : γ q = c) (hc : 0 < c) : γ' q = c := by rw [h q (by omega)]; exact hq
theorem RowsR.recolR {w : World} {γ γ' : Col} {c : Nat} {v : Value} {rows : List (List Int)} (h : RowsR w γ c v rows) (hr : Recol γ γ') : RowsR w γ' c v rows := by
  obtain ⟨xs, a1, a2, a3, a4⟩ := h
  exact ⟨xs, a1, a2, fun b hb => hr.at (a3 b hb) (by omega), fun i x hx => ⟨(a4 i x hx).1, fun b hb => hr.at ((a4 i x hx).2 b hb) (by omega)⟩⟩
theorem TableR.recolR {w : World} {γ γ' : Col} {c b : Nat} {t : TableM} (h : TableR w γ c b t) (hc : 0 < c) (hr : Recol γ γ') : TableR w γ' c b t := by
  obtain ⟨h1, h2, pv, wv, h3, h4, h5, h6⟩ := h
  exact ⟨hr.at h1 hc, h2, pv, wv, h3, h4.recolR hr, h5, fun x hx => hr.at (h6 x hx) (by omega)⟩
theorem BufferR.recolR {w : World} {γ γ' : Col} {c b : Nat} {l : List ChM} (h : BufferR w γ c b l) (hc : 0 < c) (hr : Recol γ γ') : BufferR w γ' c b l := by
  obtain ⟨h1, h2⟩ := h
  exact ⟨hr.at h1 hc, h2⟩
theorem store_build (n tb wb : Nat) (who e z sp : Int) (th : Bool) (bv : Value) (hb : bv.cells.toList = [bv]) :
    buildV P 174 [(0, ptr n 0), (1, i64 who), (2, .agg #[.bool th, i64 e, i64 z, i64 sp, bv]), (3, ptr tb 0), (4, ptr wb 0), (6, i64 (-1))] = some (.agg #[ptr n 0, i64 who, .bool th, i64 e, i64 z, i64 sp, bv, ptr tb 0, ptr wb 0, i64 0, i64 (-1), .bool false]) := by
  simp [buildV_app, fillL, fillA, splice]
section
variable {w : World} {γ : Col} {A : ArrA} {c b : Nat} {a : ArrM} {s : StoreM} {K : Value → World → Prop}
theorem Store_New {who : Int} {x : TenM × Value} (c : Nat) (hc : 1000 ≤ c) (hw : Wf w γ) (h : ArrR w γ A a) (hpg : 0 ≤ a.g.pages ∧ a.g.pages ≤ 16) (hx : Ints w x.2 x.1.blocks) (hxl : x.1.blocks.length ≤ 1000) (hsp : 0 ≤ x.1.spare ∧ x.1.spare ≤ 1000)
    (k0 : ∀ w', Fr w w' → newBad a who x.1 → K (.tuple #[.pointer none, i64 1]) w')
    (k : ∀ w' γ' b, Keep (fun _ => False) w γ w' γ' → ¬ newBad a who x.1 → w.heap.size ≤ b → SRep w' γ' A c b a (storeNew a who x.1) → K (.tuple #[ptr b 0, i64 0]) w') :
    pCall P 71 [ptr A.n 0, i64 who, tenVal x] K w := by
  refine c71 ?_
  unfold G71
  refine pNew_of (cTen x) rfl fun xb w1 hxb hxbl hf1 h1x => ?_
  have s1 := hf1.size
  refine join0 (fun w' => w1 = w' ∧ ¬ (who < 0 ∨ 4 ≤ who ∨ x.1.there = false)) ?_ ?_
  rotate_left
  · intro J hJ
    rw [binV_ptr_eql (by simp), pVal_some]
    simp only [Option.isNone_some]
    have kb : newBad a who x.1 → K (.tuple #[.pointer none, i64 1]) w1 := fun g => k0 w1 hf1 g
    by_cases g1 : who < 0
    · simp [g1]
      exact kb (.inl g1)
    simp [g1]
    by_cases g2 : 4 ≤ who
    · simp [g2]
      exact kb (.inr (.inl g2))
    simp [g2]
    refine pLd1 h1x lay_4 (v := .bool x.1.there) rfl ?_
    simp
    cases gt : x.1.there
    · simp
      exact kb (.inr (.inr (.inl gt)))
    · simp
      exact hJ _ ⟨rfl, by rintro (q | q | q); exact g1 q; exact g2 q; rw [gt] at q; cases q⟩
  rintro _ ⟨rfl, g⟩
  have hk1 : Keep (fun _ => False) w γ w1 γ := hf1.keep hw
  have h1 := h.fr hw hf1
  have hx1 := hx.fr hf1
  have hxl1 : ∀ q, live x.2 = some q → q < w.heap.size := fun q hq => hx.live_lt hq
  have hb1 : ∀ w', (∃ γ', Keep (fun _ => False) w1 γ w' γ') → Blk w' xb 53 (cTen x) := fun w' ⟨γ', hk⟩ => hk.blk h1x fun h => h
  refine pDraw_fr (fun w' => ∃ γ', Keep (fun _ => False) w1 γ w' γ') fun w2 hf2 _ _ => ⟨⟨γ, hf2.keep hk1.wf⟩, ?_⟩
  simp
  refine pHld1 hb1 lay_24 (v := x.2) rfl ?_
  rw [(hx1.fr hf2).len (by simp), pVal_some]
  refine Nand_Geometry (h1.fr hk1.wf hf2) fun w3 hf3 => ?_
  have hf13 := hf2.trans hf3
  have hk13 : Keep (fun _ => False) w1 γ w3 γ := hf13.keep hk1.wf
  rw [pKeep_true]
  refine ⟨⟨γ, hk13⟩, ?_⟩
  rw [geo_pages, pVal_some]
  refine Table_New (c + 10) hk13.wf (by omega) ?_ ?_
  · intro gb
    try rw [pKeep_true]
    try refine ⟨⟨γ, hk13⟩, ?_⟩
    rw [binV_ptr_eql (by simp), pVal_some]
    simp
    exact k0 w3 (hf1.trans hf13) (.inr (.inr (.inr (by rcases gb with q | q | q | q <;> simp [q]))))
  intro w4 γ4 tb hk4 htb gb ht4
  try rw [pKeep_true]
  have hk14 : Keep (fun _ => False) w1 γ w4 γ4 := hk13.trans hk4 fun _ h => h
  try refine ⟨⟨γ4, hk14⟩, ?_⟩
  rw [binV_ptr_eql (by simp), pVal_some]
  simp
  have h4x := hb1 w4 ⟨γ4, hk14⟩
  refine pLd1 h4x lay_24 (v := x.2) rfl ?_
  have hx4 : Ints w4 x.2 x.1.blocks := hx1.ch hk14.ch fun _ _ h => h
  refine Clone_int hx4 (by omega) fun bv w5 hbv5 hf5 hr5 => ?_
  have hk15 : Keep (fun _ => False) w1 γ w5 γ4 := hk14.trans (hf5.keep hk14.wf) fun _ h => h
  have h5x := hf5.blk h4x fun h => h
  refine pSt1 h5x lay_24 hbv5.cell1 hbv5.one (by rw [cTen_len]; omega) fun w6 hc6 h6x => ?_
  have h6x : Blk w6 xb 53 (cTen (x.1, bv)) := h6x
  have hk06 : Keep (fun _ => False) w γ w6 γ4 := (hk1.trans hk15 fun _ h => h).own (by omega) hc6
  have s5 := hk15.size
  have s6 := hc6.size
  have hbvl : ∀ q, live bv = some q → w4.heap.size ≤ q ∧ q < w5.heap.size := fun q hq => ⟨hr5 q hq, hbv5.live_lt hq⟩
  have hbv6 : Ints w6 bv x.1.blocks := hbv5.ch hc6 fun q hq he => by have := hbvl q hq; have := h4x.lt; omega
  have hxc : γ4 xb = 0 := (hk14.col xb h1x.lt).trans (hw xb (by omega))
  have ht6 : TableR w6 γ4 (c + 10) tb (tabNew x.1.blocks.length a.g.pages) := by
    have t5 := ht4.keep (hf5.keep (C := fun _ => False) hk14.wf) fun _ _ h => h
    have hk56 : Keep (fun y => y = 0) w5 γ4 w6 γ4 := hc6.keep hk15.wf fun q _ hq => by rw [hq]; exact hxc
    exact t5.keep hk56 fun y hy h0 => by unfold tabC at hy; omega
  refine pDraw_fr (fun w' => ∃ γ', Keep (fun _ => False) w6 γ4 w' γ') fun w7 hf7 _ _ => ⟨⟨γ4, hf7.keep hk06.wf⟩, ?_⟩
  have hb6 : ∀ w', (∃ γ', Keep (fun _ => False) w6 γ4 w' γ') → Blk w' xb 53 (cTen (x.1, bv)) := fun w' ⟨γ', hk⟩ => hk.blk h6x fun h => h
  refine pHldN (cTen (x.1, bv)) hb6 lay_53 (by rw [cTen_len]; omega) rfl ?_
  have hk67 : Keep (fun _ => False) w6 γ4 w7 γ4 := hf7.keep hk06.wf
  refine Buffer_New (c + 2) hk67.wf fun w8 wb hk8 hwb hwbl hf8 hb8 => ?_
  rw [pKeep_true]
  have hk68 : Keep (fun _ => False) w6 γ4 w8 (γ4.paint wb (c + 2)) := hk67.trans hk8 fun _ h => h
  refine ⟨⟨_, hk68⟩, ?_⟩
  have e : cTen (x.1, bv) = [.bool x.1.there, i64 x.1.epoch, i64 x.1.size, i64 x.1.spare, bv] := rfl
  rw [e, store_build _ _ _ _ _ _ _ _ _ hbv6.cell1, pVal_some]
  refine pNew_of (stCells A.n (storeNew a who x.1) bv tb wb) rfl fun sb w9 hsb hsbl hf9 h9 => ?_
  have s7 := hf7.size
  have s8 := hf8.size
  -- the colours
  have hk09 : Keep (fun _ => False) w γ w9 (γ4.paint wb (c + 2)) := (hk06.trans hk68 fun _ h => h).trans (hf9.keep hk68.wf) fun _ h => h
  have hsbw : w.heap.size ≤ sb := by have := hk09.size; have := hk06.size; omega
  have hk10 := hk09.paint (b := sb) (c := c) hsbw hsbl
  -- the slice's block
  obtain ⟨γf, hkf, hcb, hcs, hcw, hct⟩ : ∃ γf, Keep (fun _ => False) w γ w9 γf ∧ (∀ q, live bv = some q → γf q = c + 1) ∧ γf sb = c ∧ γf wb = c + 2 ∧ ∀ q, q ≠ sb → q ≠ wb → live bv ≠ some q → γf q = γ4 q := by
    cases hlb : live bv with
    | none =>
      refine ⟨_, hk10, fun q hq => (by cases hq), Col.paint_same, ?_, fun q h1 h2 _ => ?_⟩
      · rw [Col.paint_other (by omega)]; exact Col.paint_same
      · rw [Col.paint_other h1, Col.paint_other h2]
    | some q =>
      have hq := hbvl q hlb
      refine ⟨_, hk10.paint (b := q) (c := c + 1) (by have := hk14.size; omega) (by have := hf9.size; omega), fun q' hq' => (by cases hq'; exact Col.paint_same), ?_, ?_, fun q' h1 h2 h3 => ?_⟩
      · rw [Col.paint_other (by omega)]; exact Col.paint_same
      · rw [Col.paint_other (by omega), Col.paint_other (by omega)]; exact Col.paint_same
      · rw [Col.paint_other (fun e => h3 (by rw [e])), Col.paint_other h1, Col.paint_other h2]
  rw [pKeep_true]
  refine ⟨⟨_, hk68.trans (hf9.keep hk68.wf) fun _ h => h⟩, ?_⟩
  have g' : ¬ newBad a who x.1 := by
    rintro (q | q | q | q | q | q | q)
    · exact g (.inl q)
    · exact g (.inr (.inl q))
    · exact g (.inr (.inr q))
    · exact gb (.inl q)
    · exact gb (.inr (.inl q))
    · exact gb (.inr (.inr (.inl q)))
    · exact gb (.inr (.inr (.inr q)))
  have hlen64 : x.1.blocks.length ≤ 64 := by
    have : ¬ 64 < (x.1.blocks.length : Int) := fun q => gb (.inr (.inl q)); omega
  have hlen1 : 1 ≤ x.1.blocks.length := by
    have : ¬ (x.1.blocks.length : Int) < 1 := fun q => gb (.inl q); omega
  refine k w9 γf sb hkf g' hsbw ⟨hkf.wf, h.keep hkf fun _ _ _ _ h => h, ⟨hc, hcs, ⟨by simp only [storeNew]; omega, by simp only [storeNew]; omega, hsp⟩, bv, tb, wb, h9, ?_, hcb, ?_, ?_⟩, hpg⟩
  · have hbv8 : Ints w8 bv x.1.blocks := (hbv6.fr hf7).fr hf8
    exact hbv8.fr hf9
  · have hk69 : Keep (fun _ => False) w6 γ4 w9 (γ4.paint wb (c + 2)) := hk68.trans (hf9.keep hk68.wf) fun _ h => h
    have hk69' : Keep (fun _ => False) w6 γ4 w9 γ4 := ⟨hk69.ch, fun _ _ => rfl, fun q hq => hk06.wf q (by have := hk69.size; omega)⟩
    refine (ht6.keep hk69' fun _ _ h => h).recolR (by omega) fun q hq => hct q ?_ ?_ ?_
    · intro e; subst e; exact hq (hk06.wf _ (by omega))
    · intro e; subst e; exact hq (hk06.wf _ (by omega))
    · intro e; exact hq (hk14.wf q (by have := hbvl q e; omega))
  · refine ((hb8.keep (hf9.keep (C := fun _ => False) hk68.wf) fun h => h)).recolR (by omega) fun q hq => ?_
    by_cases hqw : q = wb
    · subst hqw; rw [Col.paint_same, hcw]
    · rw [Col.paint_other hqw] at hq ⊢
      refine hct q ?_ hqw ?_
      · intro e; subst e; exact hq (hk06.wf _ (by omega))
      · intro e; exact hq (hk14.wf q (by have := hbvl q e; omega))
end
end Go.Al

namespace Go.Al
open Go Go.Proofs
structure RoomM where
  store : Option StoreM
  queue : QueueM
structure HouseM where
  a : ArrM
  led : LedM
  rooms : List RoomM
  slots : Int
  up : Bool
structure RoomA where
  s : Option Nat
  q : Nat
def sPtr : Option Nat → Value
  | none => .pointer none
  | some b => ptr b 0
def cRoom (r : RoomA) : List Value := [sPtr r.s, ptr r.q 0]
theorem cRoom_len (r : RoomA) : (cRoom r).length = 2 := rfl
def hPre (A : ArrA) (g e : Int) (xs : List (TenM × Value)) : List Value := [ptr A.n 0, ptr A.p 0, ptr A.d 0] ++ ledCells g e xs
def hCells (A : ArrA) (g e : Int) (xs : List (TenM × Value)) (rs : List RoomA) (slots : Int) (up : Bool) : List Value :=
  hPre A g e xs ++ rs.flatMap cRoom ++ [i64 slots, .bool up]
section
variable {A : ArrA} {g e : Int} {xs : List (TenM × Value)} {rs : List RoomA} {slots : Int} {up : Bool}
theorem hPre_len (h : xs.length = 4) : (hPre A g e xs).length = 25 := by
  unfold hPre
  rw [List.length_append, ledCells_len h]; rfl
theorem hCells_len (h : xs.length = 4) (h' : rs.length = 4) : (hCells A g e xs rs slots up).length = 35 := by
  unfold hCells
  rw [List.length_append, List.length_append, hPre_len h, length_flatMap cRoom_len, h']; rfl
theorem hCells_ten {i : Nat} {x : TenM × Value} (hi : xs[i]? = some x) {k : Nat} (hk : k < 5) : (hCells A g e xs rs slots up)[5 + (i * 5 + k)]? = (cTen x)[k]? := by
  have := flat_get cTen_len hi [ptr A.n 0, ptr A.p 0, ptr A.d 0, i64 g, i64 e] (rs.flatMap cRoom ++ [i64 slots, .bool up]) hk
  simpa [hCells, hPre, ledCells] using this
theorem hCells_room (h : xs.length = 4) {i : Nat} {r : RoomA} (hi : rs[i]? = some r) {k : Nat} (hk : k < 2) : (hCells A g e xs rs slots up)[25 + (i * 2 + k)]? = (cRoom r)[k]? := by
  have := flat_get cRoom_len hi (hPre A g e xs) [i64 slots, .bool up] hk
  rw [hPre_len h] at this
  simpa [hCells] using this
theorem hCells_setRoom (h : xs.length = 4) {i : Nat} {r : RoomA} (hi : rs[i]? = some r) {k : Nat} (hk : k < 2) {v : Value} (y : RoomA) (hy : (cRoom r).set k v = cRoom y) :
    (hCells A g e xs rs slots up).set (25 + (i * 2 + k)) v = hCells A g e xs (rs.set i y) slots up := by
  have := flat_set1 cRoom_len hi (hPre A g e xs) [i64 slots, .bool up] hk y hy
  rw [hPre_len h] at this
  simpa [hCells] using this
theorem hCells_end (h : xs.length = 4) (h' : rs.length = 4) (k : Nat) : (hCells A g e xs rs slots up)[33 + k]? = [i64 slots, .bool up][k]? := by
  unfold hCells
  rw [List.getElem?_append_right (by rw [List.length_append, hPre_len h, length_flatMap cRoom_len, h']; omega)]
  rw [List.length_append, hPre_len h, length_flatMap cRoom_len, h']
  congr 1; omega
theorem hCells_setEnd (h : xs.length = 4) (h' : rs.length = 4) (k : Nat) (v : Value) : (hCells A g e xs rs slots up).set (33 + k) v = hPre A g e xs ++ rs.flatMap cRoom ++ [i64 slots, .bool up].set k v := by
  unfold hCells
  rw [List.set_append_right _ _ (by rw [List.length_append, hPre_len h, length_flatMap cRoom_len, h']; omega)]
  rw [List.length_append, hPre_len h, length_flatMap cRoom_len, h']
  congr 2; omega
theorem hCells_slots (h : xs.length = 4) (h' : rs.length = 4) (s : Int) : (hCells A g e xs rs slots up).set 33 (i64 s) = hCells A g e xs rs s up := hCells_setEnd h h' 0 _
theorem hCells_up (h : xs.length = 4) (h' : rs.length = 4) (u : Bool) : (hCells A g e xs rs slots up).set 34 (.bool u) = hCells A g e xs rs slots u := hCells_setEnd h h' 1 _
theorem hCells_led (h : xs.length = 4) : ((hCells A g e xs rs slots up).drop 3).take 22 = ledCells g e xs := by
  unfold hCells hPre
  rw [List.append_assoc, List.append_assoc]
  show ((ledCells g e xs ++ (List.flatMap cRoom rs ++ [i64 slots, .bool up]))).take 22 = _
  rw [List.take_append_of_le_length (by rw [ledCells_len h]; omega), List.take_of_length_le (by rw [ledCells_len h]; omega)]
theorem hCells_setLed (h : xs.length = 4) (g' e' : Int) {ys : List (TenM × Value)} (hy : ys.length = 4) : splice (hCells A g e xs rs slots up) 3 (ledCells g' e' ys) = hCells A g' e' ys rs slots up := by
  unfold hCells hPre splice
  rw [ledCells_len hy]
  simp only [List.append_assoc]
  show [ptr A.n 0, ptr A.p 0, ptr A.d 0] ++ _ ++ _ = _
  congr 1
  congr 1
  show ((ledCells g e xs ++ (List.flatMap cRoom rs ++ [i64 slots, .bool up]))).drop 22 = _
  rw [List.drop_append_of_le_length (by rw [ledCells_len h]; omega), List.drop_of_length_le (by rw [ledCells_len h]; omega)]
  rfl
theorem hCells_entry {i : Nat} {x : TenM × Value} (hi : xs[i]? = some x) : ((hCells A g e xs rs slots up).drop (5 + i * 5)).take 5 = cTen x := by
  have h0 := hCells_ten (A := A) (g := g) (e := e) (rs := rs) (slots := slots) (up := up) hi (k := 0) (by omega)
  apply List.ext_getElem?
  intro k
  rw [List.getElem?_take, List.getElem?_drop]
  split
  · rename_i hk
    rw [← hCells_ten (A := A) (g := g) (e := e) (rs := rs) (slots := slots) (up := up) hi hk]
    congr 1; omega
  · rw [List.getElem?_eq_none]; rw [cTen_len]; omega
end
def qC (t : Nat) : Nat := 3000 + 1000 * t
def sC (t : Nat) : Nat := 3100 + 1000 * t
def OptS (w : World) (γ : Col) (n c : Nat) : Option Nat → Option StoreM → Prop
  | none, none => True
  | some b, some s => StoreR w γ n c b s
  | _, _ => False
structure RoomsR (w : World) (γ : Col) (n : Nat) (rs : List RoomA) (rooms : List RoomM) : Prop where
  len : rs.length = 4
  len' : rooms.length = 4
  room : ∀ t r m, rs[t]? = some r → rooms[t]? = some m → QueueR w γ (qC t) r.q m.queue ∧ OptS w γ n (sC t) r.s m.store
/-- A house in memory. -/
structure HouseR (w : World) (γ : Col) (A : ArrA) (b : Nat) (m : HouseM) : Prop where
  wf : Wf w γ
  col : γ b = 2000
  arr : ArrR w γ A m.a
  pages : 0 ≤ m.a.g.pages ∧ m.a.g.pages ≤ 16
  mem : ∃ xs rs, Blk w b 103 (hCells A m.led.gen m.led.epochs xs rs m.slots m.up) ∧ LedX w xs m.led ∧ (∀ x ∈ xs, ∀ q, live x.2 = some q → γ q = 2001) ∧ RoomsR w γ A.n rs m.rooms
/-- A house's colours. -/
def hC (x : Nat) : Prop := 1 ≤ x ∧ x < 10000
theorem OptS.keep {w w' : World} {γ γ' : Col} {n c : Nat} {o : Option Nat} {s : Option StoreM} {C : Nat → Prop} (h : OptS w γ n c o s) (hk : Keep C w γ w' γ') (hC : ∀ x, stC c x → ¬ C x) : OptS w' γ' n c o s := by
  cases o <;> cases s
  · trivial
  · exact h
  · exact h
  · exact StoreR.keep h hk hC
theorem RoomsR.keep {w w' : World} {γ γ' : Col} {n : Nat} {rs : List RoomA} {rooms : List RoomM} {C : Nat → Prop} (h : RoomsR w γ n rs rooms) (hk : Keep C w γ w' γ') (hC : ∀ x, 3000 ≤ x → ¬ C x) : RoomsR w' γ' n rs rooms :=
  ⟨h.len, h.len', fun t r m h1 h2 => ⟨(h.room t r m h1 h2).1.keep hk (hC _ (by unfold qC; omega)) (hC _ (by unfold qC; omega)) (hC _ (by unfold qC; omega)), (h.room t r m h1 h2).2.keep hk fun x hx => hC x (by unfold stC sC at hx; omega)⟩⟩
theorem LedX.keep {w w' : World} {γ γ' : Col} {xs : List (TenM × Value)} {l : LedM} {C : Nat → Prop} (h : LedX w xs l) (hc : ∀ x ∈ xs, ∀ q, live x.2 = some q → γ q = 2001) (hk : Keep C w γ w' γ') (hC : ¬ C 2001) :
    LedX w' xs l ∧ ∀ x ∈ xs, ∀ q, live x.2 = some q → γ' q = 2001 :=
  ⟨h.ch hk.ch fun x hx q hq => by rw [hc x hx q hq]; exact hC, fun x hx q hq => (hk.col q ((h.mem x hx).live_lt hq)).trans (hc x hx q hq)⟩
def HouseM.room (m : HouseM) (t : Nat) : RoomM := (m.rooms[t]?).getD ⟨none, ⟨[], []⟩⟩
def HouseM.store (m : HouseM) (t : Nat) : Option StoreM := (m.room t).store
def HouseM.queue (m : HouseM) (t : Nat) : QueueM := (m.room t).queue
def HouseM.there (m : HouseM) (t : Int) : Int := if m.up = false then 12 else m.led.there t
section
variable {w : World} {γ : Col} {A : ArrA} {b : Nat} {m : HouseM} {K : Value → World → Prop}
theorem HouseR.fr {w' : World} (h : HouseR w γ A b m) (hf : Fr w w') : HouseR w' γ A b m := by
  obtain ⟨h1, h2, h3, h4, xs, rs, h5, h6, h7, h8⟩ := h
  have hk : Keep (fun _ => False) w γ w' γ := hf.keep h1
  exact ⟨hk.wf, h2, h3.fr h1 hf, h4, xs, rs, hf.blk h5 fun h => h, h6.fr hf, h7, h8.keep hk fun _ _ h => h⟩
theorem House_Up (h : HouseR w γ A b m) (k : K (.bool m.up) w) : pCall P 14 [ptr b 0] K w := by
  refine c14 ?_
  unfold G14
  obtain ⟨xs, rs, h5, h6, h7, h8⟩ := h.mem
  rw [binV_ptr_neq (by simp), pVal_some]
  simp
  exact pLd1 h5 lay_4 (hCells_end h6.len h8.len 1) k
theorem House_Up_nil (k : K (.bool false) w) : pCall P 14 [.pointer none] K w := by
  refine c14 ?_
  unfold G14
  rw [binV_ptr_neq (by simp), pVal_some]
  simp
  exact k
theorem HouseR.ten {w : World} {xs : List (TenM × Value)} {l : LedM} (h : LedX w xs l) {t : Int} (h0 : 0 ≤ t) (h1 : t < 4) : ∃ x, xs[t.toNat]? = some x ∧ x ∈ xs ∧ l.ten t = x.1 := by
  obtain ⟨x, a1, a2, _, a3⟩ := h.at (i := t.toNat) (by omega)
  exact ⟨x, a1, a2, by rw [← a3]; congr 1; omega⟩
theorem House_there {t : Int} (h : HouseR w γ A b m) (k : K (i64 (m.there t)) w) : pCall P 54 [ptr b 0, i64 t] K w := by
  refine c54 ?_
  unfold G54
  refine House_Up h ?_
  unfold HouseM.there LedM.there at k
  cases hu : m.up with
  | false => simp [hu] at k ⊢; exact k
  | true =>
    simp [hu] at k ⊢
    refine pJoin1_in ?_
    by_cases g1 : t < 0
    · simp [g1] at k ⊢; exact k
    by_cases g2 : 3 < t
    · have g2' : 4 ≤ t := by omega
      simp [g1, g2, g2'] at k ⊢; exact k
    have g2' : ¬ 4 ≤ t := by omega
    simp [g1, g2, g2'] at k ⊢
    obtain ⟨xs, rs, h5, h6, h7, h8⟩ := h.mem
    obtain ⟨x, hx, hxm, hxt⟩ := HouseR.ten h6 (t := t) (by omega) (by omega)
    rw [if_pos (by omega), pVal_some]
    simp
    refine pLd1 (o := 5 + (t.toNat * 5 + 0)) h5 lay_4 ((hCells_ten hx (by omega)).trans rfl) ?_
    rw [hxt] at k
    cases hb : x.1.there with
    | true => simp [hb] at k ⊢; exact k
    | false => simp [hb] at k ⊢; exact k
def HouseM.setQueue (m : HouseM) (t : Nat) (q : QueueM) : HouseM := { m with rooms := m.rooms.set t ⟨m.store t, q⟩ }
def HouseM.setStore (m : HouseM) (t : Nat) (a : ArrM) (s : Option StoreM) : HouseM := { m with a := a, rooms := m.rooms.set t ⟨s, m.queue t⟩ }
theorem RoomsR.set {w w' : World} {γ γ' : Col} {n : Nat} {rs : List RoomA} {rooms : List RoomM} {C : Nat → Prop} (h : RoomsR w γ n rs rooms) {t : Nat} (hk : Keep C w γ w' γ') (hC : ∀ x, C x → x < 3000 ∨ (qC t ≤ x ∧ x < qC t + 1000))
    {r : RoomA} {x : RoomM} (hq : QueueR w' γ' (qC t) r.q x.queue) (hs : OptS w' γ' n (sC t) r.s x.store) : RoomsR w' γ' n (rs.set t r) (rooms.set t x) := by
  refine ⟨by rw [List.length_set]; exact h.len, by rw [List.length_set]; exact h.len', fun t' r' m' h1 h2 => ?_⟩
  by_cases he : t = t'
  · subst he
    have h1' := (List.getElem?_eq_some_iff.1 h1).1
    have h2' := (List.getElem?_eq_some_iff.1 h2).1
    rw [List.length_set] at h1' h2'
    rw [List.getElem?_set_self h1'] at h1
    rw [List.getElem?_set_self h2'] at h2
    cases h1; cases h2
    exact ⟨hq, hs⟩
  · rw [List.getElem?_set_ne he] at h1 h2
    have h3 := h.room t' r' m' h1 h2
    have no : ∀ x, qC t' ≤ x → x < qC t' + 1000 → ¬ C x := fun x h1 h2 hc => by have := hC x hc; unfold qC at *; omega
    exact ⟨h3.1.keep hk (no _ (by omega) (by omega)) (no _ (by omega) (by omega)) (no _ (by omega) (by omega)), h3.2.keep hk fun x hx => no x (by unfold stC sC at hx; unfold qC; omega) (by unfold stC sC at hx; unfold qC; omega)⟩
theorem HouseR.room (h : HouseR w γ A b m) {t : Nat} (ht : t < 4) : ∃ (xs : List (TenM × Value)) (rs : List RoomA) (r : RoomA), Blk w b 103 (hCells A m.led.gen m.led.epochs xs rs m.slots m.up) ∧ LedX w xs m.led ∧
    (hCells A m.led.gen m.led.epochs xs rs m.slots m.up)[25 + t * 2]? = some (sPtr r.s) ∧ (hCells A m.led.gen m.led.epochs xs rs m.slots m.up)[25 + t * 2 + 1]? = some (ptr r.q 0) ∧
    QueueR w γ (qC t) r.q (m.queue t) ∧ OptS w γ A.n (sC t) r.s (m.store t) ∧
    (∀ w' γ' q', Keep (quC (qC t)) w γ w' γ' → QueueR w' γ' (qC t) r.q q' → HouseR w' γ' A b (m.setQueue t q')) ∧
    (∀ bs s, r.s = some bs → m.store t = some s → SRep w γ A (sC t) bs m.a s ∧ ∀ w' γ' a' s', Keep (opC (sC t)) w γ w' γ' → SRep w' γ' A (sC t) bs a' s' → HouseR w' γ' A b (m.setStore t a' (some s'))) ∧
    (∀ w', Ch (· = b) w w' → Blk w' b 103 ((hCells A m.led.gen m.led.epochs xs rs m.slots m.up).set (25 + t * 2) (.pointer none)) → HouseR w' γ A b (m.setStore t m.a none) ∧ Keep hC w γ w' γ) := by
  obtain ⟨h1, h2, h3, h4, xs, rs, h5, h6, h7, h8⟩ := h
  have hl : t < rs.length := by rw [h8.len]; exact ht
  have hl' : t < m.rooms.length := by rw [h8.len']; exact ht
  have hr : rs[t]? = some rs[t] := List.getElem?_eq_getElem hl
  have hm : m.rooms[t]? = some (m.room t) := by unfold HouseM.room; rw [List.getElem?_eq_getElem hl']; rfl
  have hroom := h8.room t _ _ hr hm
  refine ⟨xs, rs, rs[t], h5, h6, hCells_room h6.len hr (k := 0) (by omega), hCells_room h6.len hr (k := 1) (by omega), hroom.1, hroom.2, ?_, ?_, ?_⟩
  · intro w' γ' q' hk hq
    have hq9 : ∀ x, quC (qC t) x → 3000 ≤ x ∧ qC t ≤ x ∧ x ≤ qC t + 2 := fun x hx => by unfold quC qC at *; omega
    have hL := h6.keep h7 hk fun hx => by have := hq9 _ hx; omega
    refine ⟨hk.wf, (hk.col b h5.lt).trans h2, h3.keep hk fun c _ _ _ hx => by have := hq9 _ hx; omega, h4, xs, rs, hk.blk h5 fun hx => by rw [h2] at hx; have := hq9 _ hx; omega, hL.1, hL.2, ?_⟩
    have := h8.set (t := t) (r := rs[t]) (x := ⟨m.store t, q'⟩) hk (fun x hx => by have := hq9 _ hx; omega) hq (hroom.2.keep hk fun x hx hx' => by have := hq9 _ hx'; unfold stC sC at hx; unfold qC at this; omega)
    rw [List.set_getElem_self] at this
    exact this
  · intro bs s hbs hs
    have hst : StoreR w γ A.n (sC t) bs s := by
      have := hroom.2
      rw [hbs] at this
      unfold HouseM.store at hs
      rw [hs] at this
      exact this
    refine ⟨⟨h1, h3, hst, h4⟩, fun w' γ' a' s' hk hs' => ?_⟩
    have hq9 : ∀ x, opC (sC t) x → x < 1000 ∨ (3100 ≤ x ∧ sC t ≤ x ∧ x < sC t + 300) := fun x hx => by unfold opC arrC stC sC at *; omega
    have hL := h6.keep h7 hk fun hx => by have := hq9 _ hx; omega
    refine ⟨hk.wf, (hk.col b h5.lt).trans h2, hs'.arr, hs'.pages, xs, rs, hk.blk h5 fun hx => by rw [h2] at hx; have := hq9 _ hx; omega, hL.1, hL.2, ?_⟩
    have := h8.set (t := t) (r := rs[t]) (x := ⟨some s', m.queue t⟩) hk (fun x hx => by have := hq9 _ hx; unfold sC at this; unfold qC; omega)
      (hroom.1.keep hk (fun hx => by have := hq9 _ hx; unfold sC at this; unfold qC at this; omega) (fun hx => by have := hq9 _ hx; unfold sC at this; unfold qC at this; omega) fun hx => by have := hq9 _ hx; unfold sC at this; unfold qC at this; omega)
      (by rw [hbs]; exact hs'.st)
    rw [List.set_getElem_self] at this
    exact this
  · intro w' hc hb
    have hk : Keep (fun x => x = 2000) w γ w' γ := hc.keep h1 fun x _ hx => by subst hx; exact h2
    have hL := h6.keep h7 hk (by decide)
    refine ⟨⟨hk.wf, h2, h3.keep hk fun c _ _ _ hx => by omega, h4, xs, rs.set t ⟨none, rs[t].q⟩, ?_, hL.1, hL.2, ?_⟩, hk.mono fun x hx => by subst hx; unfold hC; omega⟩
    · have := hCells_setRoom (A := A) (g := m.led.gen) (e := m.led.epochs) (slots := m.slots) (up := m.up) h6.len hr (k := 0) (by omega) (v := .pointer none) ⟨none, rs[t].q⟩ rfl
      rw [show 25 + (t * 2 + 0) = 25 + t * 2 from by omega] at this
      rw [this] at hb
      exact hb
    · exact h8.set (t := t) (r := ⟨none, rs[t].q⟩) (x := ⟨none, m.queue t⟩) hk (fun x hx => by omega) (hroom.1.keep hk (by unfold qC; omega) (by unfold qC; omega) (by unfold qC; omega)) trivial
/-- The array was changed. -/
theorem HouseR.arrK {w' : World} {γ' : Col} {a' : ArrM} (h : HouseR w γ A b m) (hk : Keep arrC w γ w' γ') (ha : ArrR w' γ' A a') (hg : a'.g = m.a.g) : HouseR w' γ' A b { m with a := a' } := by
  obtain ⟨h1, h2, h3, h4, xs, rs, h5, h6, h7, h8⟩ := h
  have hL := h6.keep h7 hk (by unfold arrC; omega)
  exact ⟨hk.wf, (hk.col b h5.lt).trans h2, ha, by rw [hg]; exact h4, xs, rs, hk.blk h5 (by rw [h2]; unfold arrC; omega), hL.1, hL.2, h8.keep hk fun x hx hc => by unfold arrC at hc; omega⟩
end
end Go.Al

namespace Go.Al
open Go Go.Proofs
section
variable {w : World} {γ : Col} {A : ArrA} {b : Nat} {m : HouseM} {K : Value → World → Prop}
theorem House_Slots (h : HouseR w γ A b m) (k : K (i64 m.slots) w) : pCall P 39 [ptr b 0] K w := by
  refine c39 ?_
  unfold G39
  obtain ⟨xs, rs, h5, h6, h7, h8⟩ := h.mem
  rw [binV_ptr_eql (by simp), pVal_some]
  simp
  exact pLd1 h5 lay_3 (hCells_end h6.len h8.len 0) k
theorem House_pages (h : HouseR w γ A b m) (k : ∀ w', Fr w w' → K (i64 m.a.g.pages) w') : pCall P 66 [ptr b 0] K w := by
  refine c66 ?_
  unfold G66
  obtain ⟨xs, rs, h5, h6, h7, h8⟩ := h.mem
  simp
  refine pLd1 h5 lay_58 rfl ?_
  refine Nand_Geometry h.arr fun w1 hf1 => ?_
  rw [geo_pages, pVal_some]
  exact k w1 hf1
theorem House_free (h : HouseR w γ A b m) (k : ∀ v w', Fr w w' → Ints w' v (m.led.free m.a.bl.length m.a.bad) → Fresh w v → K v w') : pCall P 64 [ptr b 0] K w := by
  refine c64 ?_
  unfold G64
  obtain ⟨xs, rs, h5, h6, h7, h8⟩ := h.mem
  refine pDraw_fr (fun w' => Fr w w') fun w1 hf1 _ _ => ⟨hf1, ?_⟩
  simp
  refine pHldN (ledCells m.led.gen m.led.epochs xs) (fun w' hS => hS.blk h5 fun h => h) lay_56 (by rw [hCells_len h6.len h8.len]; omega) (hCells_led h6.len) ?_
  refine pHld1 (fun w' hS => hS.blk h5 fun h => h) lay_58 rfl ?_
  refine pHld1 (fun w' hS => hS.blk h5 fun h => h) lay_58 rfl ?_
  have h1 := h.fr hf1
  refine Nand_Blocks h1.arr ?_
  rw [pKeep_true]
  refine ⟨hf1, ?_⟩
  refine Ledger_Free (bad := m.a.bad) (h6.fr hf1) (by have := h.arr.ok.blocks; omega) (fun bl w' K' hf hk => ?_) fun v w2 hf2 hv hfr => ?_
  · refine pCallV_of ?_
    exact Nand_Bad (h1.fr hf).arr hk
  · rw [pKeep_true]
    refine ⟨hf1.trans hf2, k v w2 (hf1.trans hf2) hv fun q hq => ?_⟩
    have := hfr q hq; have := hf1.size; omega
theorem House_Peek {t p : Int} (h : HouseR w γ A b m) (k0 : m.there t ≠ 0 → K (.tuple #[sV [], i64 (m.there t)]) w) (hs : m.there t = 0 → ∃ s, m.store t.toNat = some s)
    (k : ∀ w' s, Fr w w' → m.there t = 0 → m.store t.toNat = some s → K (.tuple #[sV (sRead m.a s p).data, i64 (sRead m.a s p).e]) w') : pCall P 16 [ptr b 0, i64 t, i64 p] K w := by
  refine c16 ?_
  unfold G16
  refine House_there h ?_
  by_cases g : m.there t = 0
  · have ht : 0 ≤ t ∧ t < 4 := by
      unfold HouseM.there LedM.there at g
      split at g
      · cases g
      · split at g
        · cases g
        · omega
    obtain ⟨s, hs⟩ := hs g
    obtain ⟨xs, rs, r, h5, h6, h7, h8, h9, h10, h11, h12, h13⟩ := h.room (t := t.toNat) (by omega)
    simp [g]
    rw [if_pos (by omega), pVal_some]
    simp
    refine pLd1 h5 lay_97 h7 ?_
    rw [hs] at h10
    cases hr : r.s with
    | none => rw [hr] at h10; exact h10.elim
    | some bs =>
      obtain ⟨hsr, _⟩ := h12 bs s hr hs
      refine Store_Read hsr fun w1 hf1 => ?_
      simp
      exact k w1 s hf1 g hs
  · simp [g]
    exact k0 g
theorem House_Submit {t : Int} {x : CmdM} (h : HouseR w γ A b m) (k0 : ∀ w', Fr w w' → m.there t ≠ 0 → K (i64 (m.there t)) w')
    (k : ∀ w' γ', Keep hC w γ w' γ' → m.there t = 0 → HouseR w' γ' A b (m.setQueue t.toNat ((m.queue t.toNat).submit x).2) → K (i64 ((m.queue t.toNat).submit x).1) w') : pCall P 21 [ptr b 0, i64 t, x.val] K w := by
  refine c21 ?_
  unfold G21
  refine pNew_of x.cells rfl fun xb w1 hxb hxbl hf1 h1 => ?_
  have hh := h.fr hf1
  refine House_there hh ?_
  by_cases g : m.there t = 0
  · have ht : 0 ≤ t ∧ t < 4 := by
      unfold HouseM.there LedM.there at g
      split at g
      · cases g
      · split at g
        · cases g
        · omega
    obtain ⟨xs, rs, r, h5, h6, h7, h8, h9, h10, h11, h12, h13⟩ := hh.room (t := t.toNat) (by omega)
    simp [g]
    refine pDraw_fr (fun w' => Fr w1 w') fun w2 hf2 _ _ => ⟨hf2, ?_⟩
    rw [if_pos (by omega), pVal_some]
    simp
    refine pHld1 (fun w' hS => hS.blk h5 fun h => h) lay_98 h8 ?_
    refine pHldN x.cells (fun w' hS => hS.blk h1 fun h => h) lay_30 (by rw [x.len]; omega) (by rw [List.drop_zero, List.take_of_length_le (by rw [x.len]; omega)]) ?_
    have hk12 : ∀ {C : Nat → Prop}, Keep C w1 γ w2 γ := hf2.keep hh.wf
    have hk01 : ∀ {C : Nat → Prop}, Keep C w γ w1 γ := hf1.keep h.wf
    refine Queue_Submit (x := x) (hk12 (C := hC)).wf (by unfold qC; omega) (h9.keep (C := fun _ => False) hk12 (fun h => h) (fun h => h) fun h => h) fun w3 γ3 hk3 hq3 => ?_
    refine k w3 γ3 ((hk01.trans hk12 fun _ h => h).trans (hk3.mono (C' := hC) fun x hx => ?_) fun _ h => h) g (h11 w3 γ3 _ (hk12.trans hk3 fun _ h => h) hq3)
    unfold quC qC at hx; unfold hC; omega
  · simp [g]
    exact k0 w1 hf1 g
theorem House_Done {t : Int} (h : HouseR w γ A b m) (hd : ∀ t, (m.queue t).done.length ≤ 1000000000) (k0 : t < 0 ∨ 3 < t → K (.slice none 0 0) w)
    (k : ∀ v w', 0 ≤ t → t ≤ 3 → Sl w' 3 DoneM.cells v (m.queue t.toNat).done → Fr w w' → Fresh w v → K v w') : pCall P 41 [ptr b 0, i64 t] K w := by
  refine c41 ?_
  unfold G41
  refine pJoin0_in ?_
  rw [binV_ptr_eql (by simp), pVal_some]
  by_cases g1 : t < 0
  · simp [g1]; exact k0 (.inl g1)
  by_cases g2 : 3 < t
  · have g2' : 4 ≤ t := by omega
    simp [g1, g2']; exact k0 (.inr g2)
  have g2' : ¬ 4 ≤ t := by omega
  obtain ⟨xs, rs, r, h5, h6, h7, h8, h9, h10, h11, h12, h13⟩ := h.room (t := t.toNat) (by omega)
  simp [g1, g2']
  rw [if_pos (by omega), pVal_some]
  simp
  refine pLd1 h5 lay_98 h8 ?_
  exact Queue_All h9 (hd _) fun v w1 hs hf hfr => k v w1 (by omega) (by omega) hs hf hfr
def clrTo : Nat → List RoomM → List RoomM
  | 0, l => l
  | n + 1, l => (clrTo n l).set n ⟨none, { (((clrTo n l)[n]?).getD ⟨none, ⟨[], []⟩⟩).queue with wait := [] }⟩
def HouseM.settle (m : HouseM) : HouseM := if m.up = false ∨ m.a.pw.gone = false then m else { m with up := false, led := LedM.zero, rooms := clrTo 4 m.rooms }
theorem House_settle (h : HouseR w γ A b m) (k : ∀ w', Keep hC w γ w' γ → HouseR w' γ A b m.settle → K (.tuple #[]) w') : pCall P 68 [ptr b 0] K w := by
  refine c68 ?_
  unfold G68
  obtain ⟨xs, rs, h5, h6, h7, h8⟩ := h.mem
  refine pJoin0_in ?_
  simp
  refine pLd1 h5 lay_4 (hCells_end h6.len h8.len 1) ?_
  unfold HouseM.settle at k
  by_cases g1 : m.up = false
  · simp [g1] at k ⊢
    exact k w (Keep.refl h.wf) h
  have g1' : m.up = true := by simpa using g1
  simp [g1']
  refine pLd1 h5 lay_93 rfl ?_
  refine Power_Gone h.arr.power ?_
  by_cases g2 : m.a.pw.gone = false
  · simp [g2] at k ⊢
    exact k w (Keep.refl h.wf) h
  have g2' : m.a.pw.gone = true := by simpa using g2
  rw [if_neg (by simp [g1', g2'])] at k
  simp [g2']
  refine pSt1 h5 lay_4 (by simp) rfl (by rw [hCells_len h6.len h8.len]; omega) fun w1 hc1 b1 => ?_
  rw [led_build, pVal_some]
  rw [hCells_up h6.len h8.len] at b1
  refine pStN (ledCells 0 0 ledZs) b1 lay_56 rfl rfl (by rw [hCells_len h6.len h8.len]; omega) rfl fun w2 hc2 b2 => ?_
  rw [hCells_setLed h6.len 0 0 rfl] at b2
  have hk2 : Keep (fun x => x = 2000) w γ w2 γ := (hc1.trans hc2 fun _ _ h => h).keep h.wf fun x _ hx => by subst hx; exact h.col
  have hk2' : Keep hC w γ w2 γ := hk2.mono fun x hx => by subst hx; unfold hC; omega
  have hh : HouseR w2 γ A b { m with up := false, led := LedM.zero } := by
    refine ⟨hk2.wf, h.col, h.arr.keep hk2 fun c _ _ _ hx => by omega, h.pages, ledZs, rs, b2, ledZs_x w2, fun x hx q hq => ?_, h8.keep hk2 fun x hx => by omega⟩
    rw [List.eq_of_mem_replicate hx] at hq; cases hq
  refine loop1_up 4 (fun i w' => Keep hC w γ w' γ ∧ HouseR w' γ A b { m with up := false, led := LedM.zero, rooms := clrTo i m.rooms }) ⟨hk2', hh⟩ ?_
  rintro i w3 ag hag hi ⟨hk3, hr3⟩
  by_cases hi4 : i < 4
  · obtain ⟨xs', rs', r', c5, c6, c7, c8, c9, c10, c11, c12, c13⟩ := hr3.room hi4
    have hi' : (i : Int) < 4 := by omega
    simp [hi']
    have hlen := (List.getElem?_eq_some_iff.1 c7).1
    refine pSt1 c5 lay_97 (by simp) rfl hlen fun w4 hc4 b4 => ?_
    obtain ⟨hr4, hk4⟩ := c13 w4 hc4 b4
    obtain ⟨xs'', rs'', r'', d5, d6, d7, d8, d9, d10, d11, d12, d13⟩ := hr4.room hi4
    refine pLd1 d5 lay_98 d8 ?_
    refine Queue_Clear hr4.wf (by unfold qC; omega) d9 fun w5 hk5 hq5 => ?_
    have hr5 := d11 w5 γ _ hk5 hq5
    rw [wrap_succ (by omega)]
    refine hag (i + 1) w5 (by omega) (by omega) ⟨(hk3.trans hk4 fun _ h => h).trans (hk5.mono (C' := hC) fun x hx => by unfold quC qC at hx; unfold hC; omega) fun _ h => h, ?_⟩
    have hl : i < (clrTo i m.rooms).length := by
      obtain ⟨_, _, _, _, _, e⟩ := hr3.mem
      have := e.len'
      simp only at this
      omega
    have e : ({ m with up := false, led := LedM.zero, rooms := clrTo (i + 1) m.rooms } : HouseM) =
        (({ m with up := false, led := LedM.zero, rooms := clrTo i m.rooms } : HouseM).setStore i m.a none).setQueue i { ((({ m with up := false, led := LedM.zero, rooms := clrTo i m.rooms } : HouseM).setStore i m.a none).queue i) with wait := [] } := by
      simp only [HouseM.setStore, HouseM.setQueue, HouseM.store, HouseM.queue, HouseM.room, List.getElem?_set_self hl, Option.getD_some, List.set_set, clrTo]
    rw [e]
    exact hr5
  · have hi4' : i = 4 := by omega
    subst hi4'
    simp
    exact k w3 hk3 hr3
end
end Go.Al

namespace Go.Al
open Go Go.Proofs
def sDo (a : ArrM) (s : StoreM) (x : CmdM) : List UInt8 × SOut :=
  if x.op = 1 then ((sRead a s x.place).data, ⟨(sRead a s x.place).e, a, s⟩) else if x.op = 2 then ([], sWrite a s x.place x.data) else if x.op = 3 then ([], sTrim a s x.place) else ([], sFlush a s)
section
variable {w : World} {γ : Col} {A : ArrA} {c b : Nat} {a : ArrM} {s : StoreM} {K : Value → World → Prop}
theorem House_do {x : CmdM} (h : SRep w γ A c b a s) (hi : SInv a s)
    (k : ∀ w' γ', Keep (opC c) w γ w' γ' → SRep w' γ' A c b (sDo a s x).2.a (sDo a s x).2.s → K (.tuple #[sV (sDo a s x).1, i64 (sDo a s x).2.e]) w') : pCall P 86 [ptr b 0, x.val] K w := by
  refine c86 ?_
  unfold G86
  refine pNew_of x.cells rfl fun xb w1 hxb hxbl hf1 h1 => ?_
  have hh := h.fr hf1
  have hk1 : ∀ {C : Nat → Prop}, Keep C w γ w1 γ := hf1.keep h.wf
  unfold sDo at k
  simp
  refine pLd1 h1 lay_3 rfl ?_
  by_cases g1 : x.op = 1
  · simp [g1] at k ⊢
    refine pLd1 h1 lay_3 rfl ?_
    refine Store_Read hh fun w2 hf2 => ?_
    simp
    exact k w2 γ (hk1.trans (hf2.keep hh.wf) fun _ h => h) (hh.fr hf2)
  by_cases g2 : x.op = 2
  · simp [g2] at k ⊢
    refine pLd1 h1 lay_3 rfl ?_
    refine pLd1 h1 lay_9 rfl ?_
    refine Store_Write hh hi fun w2 γ2 hk2 h2 => ?_
    exact k w2 γ2 (hk1.trans hk2 fun _ h => h) h2
  by_cases g3 : x.op = 3
  · simp [g3] at k ⊢
    refine pLd1 h1 lay_3 rfl ?_
    refine Store_Trim hh hi fun w2 γ2 hk2 h2 => ?_
    exact k w2 γ2 (hk1.trans hk2 fun _ h => h) h2
  · simp [g1, g2, g3] at k ⊢
    refine Store_Flush hh hi fun w2 γ2 hk2 h2 => ?_
    exact k w2 γ2 (hk1.trans hk2 fun _ h => h) h2
end
structure HInv (m : HouseM) : Prop where
  led : m.led.ok
  ck : m.led.check m.a.bl.length m.a.g.pages = 0
  st : ∀ t : Nat, t < 4 → (m.led.ten t).there = true → ∃ s, m.store t = some s ∧ s.ent = m.led.ten t ∧ s.who = t ∧ SInv m.a s
  off : ∀ t : Nat, t < 4 → (m.led.ten t).there = false → m.store t = none
  down : m.up = false → m.led = LedM.zero
  slots : 0 ≤ m.slots ∧ m.slots ≤ 100000000
  done : ∀ t : Nat, ((m.queue t).done.length : Int) ≤ m.slots
theorem HouseM.there_in {m : HouseM} {t : Int} (h : m.there t = 0) : 0 ≤ t ∧ t < 4 ∧ m.up = true ∧ (m.led.ten t).there = true := by
  unfold HouseM.there LedM.there at h
  split at h
  · cases h
  · rename_i hu
    split at h
    · cases h
    · split at h
      · rename_i g1 g2; exact ⟨by omega, by omega, by simpa using hu, g2⟩
      · cases h
theorem HInv.store {m : HouseM} (h : HInv m) {t : Int} (ht : m.there t = 0) : ∃ s, m.store t.toNat = some s ∧ s.ent = m.led.ten t ∧ s.who = t ∧ SInv m.a s := by
  obtain ⟨h0, h1, _, h2⟩ := HouseM.there_in ht
  have e : ((t.toNat : Nat) : Int) = t := by omega
  have := h.st t.toNat (by omega) (by rw [e]; exact h2)
  rw [e] at this
  exact this
def HouseM.slotAt (m : HouseM) (t : Nat) (s : StoreM) (x : CmdM) (l : List CmdM) : Bool × HouseM :=
  let m1 := m.setQueue t ⟨l, (m.queue t).done⟩
  let r := sDo m.a s x
  let m2 := m1.setStore t r.2.a (some r.2.s)
  let m3 := if r.2.e = 12 then m2 else m2.setQueue t ⟨(m2.queue t).wait, (m2.queue t).done ++ [⟨m.slots - 1, r.2.e, r.1⟩]⟩
  (decide (r.2.e ≠ 12), m3.settle)
def HouseM.slot (m : HouseM) : Bool × HouseM :=
  if m.up = false then (false, m) else
  let m0 := { m with slots := m.slots + 1 }
  if m0.there (m.slots.tmod 4) ≠ 0 then (false, m0) else
  match (m0.queue (m.slots.tmod 4).toNat).wait, m0.store (m.slots.tmod 4).toNat with
  | x :: l, some s => m0.slotAt (m.slots.tmod 4).toNat s x l
  | _, _ => (false, m0)
section
variable {w : World} {γ : Col} {A : ArrA} {b : Nat} {m : HouseM} {K : Value → World → Prop}
theorem HouseR.setQ {w : World} {γ : Col} {A : ArrA} {b : Nat} {m : HouseM} (h : HouseR w γ A b m) {t : Nat} (ht : t < 4) : m.rooms.length = 4 := by
  obtain ⟨_, _, _, _, _, e⟩ := h.mem; exact e.len'
theorem House_Slot (h : HouseR w γ A b m) (hi : HInv m) (k : ∀ w' γ', Keep hC w γ w' γ' → HouseR w' γ' A b m.slot.2 → K (.bool m.slot.1) w') : pCall P 22 [ptr b 0] K w := by
  refine c22 ?_
  unfold G22
  refine House_Up h ?_
  unfold HouseM.slot at k
  by_cases hu : m.up = false
  · simp [hu] at k ⊢; exact k w γ (Keep.refl h.wf) h
  have hu' : m.up = true := by simpa using hu
  rw [if_neg hu] at k
  simp [hu']
  obtain ⟨xs, rs, h5, h6, h7, h8⟩ := h.mem
  refine pLd1 h5 lay_3 (hCells_end h6.len h8.len 0) ?_
  refine pLd1 h5 lay_3 (hCells_end h6.len h8.len 0) ?_
  have hsl := hi.slots
  simp
  rw [wrap_in (by omega) (by omega)]
  refine pSt1 h5 lay_3 (by simp) rfl (by rw [hCells_len h6.len h8.len]; omega) fun w1 hc1 b1 => ?_
  rw [hCells_slots h6.len h8.len] at b1
  have hk1 : Keep (fun x => x = 2000) w γ w1 γ := hc1.keep h.wf fun x _ hx => by subst hx; exact h.col
  have hk1' : Keep hC w γ w1 γ := hk1.mono fun x hx => by subst hx; unfold hC; omega
  have hL := h6.keep h7 hk1 (by omega)
  have hh : HouseR w1 γ A b { m with slots := m.slots + 1 } := ⟨hk1.wf, h.col, h.arr.keep hk1 fun c _ _ _ hx => by omega, h.pages, xs, rs, b1, hL.1, hL.2, h8.keep hk1 fun x hx => by omega⟩
  rw [binV_rem _ _ _ _ (by decide), pVal_some]
  refine House_there hh ?_
  obtain ⟨m0, hm0⟩ : ∃ m0, m0 = { m with slots := m.slots + 1 } := ⟨_, rfl⟩
  rw [← hm0] at hh k ⊢
  have hm0s : m0.slots = m.slots + 1 := by rw [hm0]
  obtain ⟨t, ht⟩ : ∃ t, t = m.slots.tmod 4 := ⟨_, rfl⟩
  rw [← ht] at k ⊢
  by_cases g : m0.there t = 0
  rotate_left
  · simp [g] at k ⊢
    exact k w1 γ hk1' hh
  obtain ⟨t0, t4, _, _⟩ := HouseM.there_in g
  have g' : m.there t = 0 := by rw [hm0] at g; exact g
  obtain ⟨s, hs, hse, hsw, hsi⟩ := hi.store g'
  have hs0 : m0.store t.toNat = some s := by rw [hm0]; exact hs
  have ha0 : m0.a = m.a := by rw [hm0]
  rw [if_neg (by simp [g]), hs0] at k
  simp [g]
  obtain ⟨xs1, rs1, r1, c5, c6, c7, c8, c9, c10, c11, c12, c13⟩ := hh.room (t := t.toNat) (by omega)
  rw [if_pos (by omega), pVal_some]
  simp
  refine pLd1 c5 lay_98 c8 ?_
  refine Queue_Next hh.wf (by unfold qC; omega) c9 (fun w2 hf2 hq => ?_) fun w2 x l hk2 hq hq2 => ?_
  · rw [hq] at k
    simp only [extractV_tuple, List.getElem?_toArray, List.getElem?_cons_zero, List.getElem?_cons_succ, pVal_some]
    refine pAlloc_of CmdM.zero.cells zero_30 rfl fun cb w3 hcb hcbl hf3 h3 => ?_
    refine pStN CmdM.zero.cells h3 lay_30 rfl rfl (by simp [CmdM.len]) rfl fun w4 hc4 h4 => ?_
    simp
    have hf14 : Fr w1 w4 := (hf2.trans hf3).trans' (by have := hf2.size; omega) hc4
    exact k w4 γ (hk1'.trans (hf14.keep hh.wf) fun _ h => h) (hh.fr hf14)
  · rw [hq] at k
    have hr2 := c11 w2 γ _ hk2 hq2
    have hk02 : Keep hC w γ w2 γ := hk1'.trans (hk2.mono (C' := hC) fun x hx => by unfold quC qC at hx; unfold hC; omega) fun _ h => h
    simp only [extractV_tuple, List.getElem?_toArray, List.getElem?_cons_zero, List.getElem?_cons_succ, pVal_some]
    refine pAlloc_of CmdM.zero.cells zero_30 rfl fun cb w3 hcb hcbl hf3 h3 => ?_
    refine pStN x.cells h3 lay_30 rfl rfl (by simp [CmdM.len]) rfl fun w4 hc4 h4 => ?_
    have h4 : Blk w4 cb 30 x.cells := h4
    have hf24 : Fr w2 w4 := Ch.new hf3 hcb hc4
    have hr4 := hr2.fr hf24
    simp
    refine pDraw_fr (fun w' => Fr w4 w') fun w5 hf5 _ _ => ⟨hf5, ?_⟩
    have hlen := hh.setQ (t := t.toNat) (by omega)
    obtain ⟨xs2, rs2, r2, d5, d6, d7, d8, d9, d10, d11, d12, d13⟩ := hr4.room (t := t.toNat) (by omega)
    refine pHld1 (fun w' hS => hS.blk d5 fun h => h) lay_97 d7 ?_
    refine pHldN x.cells (fun w' hS => hS.blk h4 fun h => h) lay_30 (by rw [x.len]; omega) (by rw [List.drop_zero, List.take_of_length_le (by rw [x.len]; omega)]) ?_
    obtain ⟨m1, hm1⟩ : ∃ m1, m1 = m0.setQueue t.toNat ⟨l, (m0.queue t.toNat).done⟩ := ⟨_, rfl⟩
    have hs1 : m1.store t.toNat = some s := by
      rw [hm1]
      unfold HouseM.setQueue HouseM.store HouseM.room
      simp only
      rw [List.getElem?_set_self (by omega)]
      exact hs0
    have ha1 : m1.a = m.a := by rw [hm1]; exact ha0
    have hd1 : ((m1.queue t.toNat).done.length : Int) ≤ 100000000 := by
      have := hi.done t.toNat
      rw [hm1]
      unfold HouseM.setQueue HouseM.queue HouseM.room at *
      simp only
      rw [List.getElem?_set_self (by omega)]
      simp only [Option.getD_some]
      rw [hm0]
      simp only
      omega
    rw [← hm1] at hr4 d10 d12
    rw [hs1] at d10
    cases hrs : r2.s with
    | none => rw [hrs] at d10; exact d10.elim
    | some bs =>
    obtain ⟨hsr, hback⟩ := d12 bs s hrs hs1
    refine House_do (x := x) (hsr.fr hf5) (by rw [ha1]; exact hsi) fun w6 γ6 hk6 hs6 => ?_
    have hk46 : Keep (opC (sC t.toNat)) w4 γ w6 γ6 := (hf5.keep hr4.wf).trans hk6 fun _ h => h
    have hr6 := hback w6 γ6 _ _ hk46 hs6
    have hk06 : Keep hC w γ w6 γ6 := ((hk02.trans (hf24.keep hr2.wf) fun _ h => h).trans (hk46.mono (C' := hC) fun x hx => by unfold opC arrC stC sC at hx; unfold hC; omega) fun _ h => h)
    simp only [extractV_tuple, List.getElem?_toArray, List.getElem?_cons_zero, List.getElem?_cons_succ, pVal_some]
    unfold HouseM.slotAt at k
    dsimp only at k
    rw [← hm1, ha0] at k
    rw [ha1] at hr6
    obtain ⟨q, hq⟩ : ∃ q, q = sDo m.a s x := ⟨_, rfl⟩
    rw [ha1]
    rw [← hq] at hr6 k ⊢
    obtain ⟨m2, hm2⟩ : ∃ m2, m2 = m1.setStore t.toNat q.2.a (some q.2.s) := ⟨_, rfl⟩
    rw [← hm2] at hr6 k
    refine join0 (fun w' => ∃ γ', Keep hC w γ w' γ' ∧ HouseR w' γ' A b (if q.2.e = 12 then m2 else m2.setQueue t.toNat ⟨(m2.queue t.toNat).wait, (m2.queue t.toNat).done ++ [⟨m0.slots - 1, q.2.e, q.1⟩]⟩)) ?_ ?_
    · rintro w7 ⟨γ7, hk7, hr7⟩
      refine House_settle hr7 fun w8 hk8 hr8 => ?_
      simp
      have e := k w8 γ7 (hk7.trans hk8 fun _ h => h) hr8
      simp only [decide_not] at e
      exact e
    · intro J hJ
      by_cases ge : q.2.e = 12
      · simp [ge]
        exact hJ w6 ⟨γ6, hk06, by rw [if_pos ge]; exact hr6⟩
      · simp [ge]
        obtain ⟨xs3, rs3, r3, e5, e6, e7, e8, e9, e10, e11, e12, e13⟩ := hr6.room (t := t.toNat) (by omega)
        refine pLd1 e5 lay_98 e8 ?_
        have hbv : buildV P 88 [(0, i64 m.slots), (1, i64 q.2.e), (2, sV q.1)] = some (DoneM.val ⟨m0.slots - 1, q.2.e, q.1⟩) := by
          rw [show m0.slots - 1 = m.slots by rw [hm0s]; omega]
          simp [buildV_app, fillL, fillA, splice, DoneM.val, DoneM.cells]
        rw [hbv, pVal_some]
        refine Queue_Done hr6.wf (by unfold qC; omega) e9 ?_ fun w7 γ7 hk7 hq7 => ?_
        · have hl1 : t.toNat < m1.rooms.length := by rw [hm1]; simp only [HouseM.setQueue, List.length_set]; omega
          have e : m2.queue t.toNat = m1.queue t.toNat := by
            rw [hm2]
            unfold HouseM.setStore
            conv => lhs; unfold HouseM.queue HouseM.room
            simp only
            rw [List.getElem?_set_self hl1]
            rfl
          rw [e]
          omega
        · refine hJ w7 ⟨γ7, hk06.trans (hk7.mono (C' := hC) fun x hx => by unfold quC qC at hx; unfold hC; omega) fun _ h => h, ?_⟩
          rw [if_neg ge]
          exact e11 w7 γ7 _ hk7 hq7
end
end Go.Al

namespace Go.Al
open Go Go.Proofs
def hBlank : List Int → ArrM → Int × ArrM
  | [], a => (0, a)
  | b :: bs, a => if a.blank b then hBlank bs a else if (a.erase 4 b).1 ≠ 0 then a.erase 4 b else hBlank bs (a.erase 4 b).2
theorem hBlank_cons (b : Int) (bs : List Int) (a : ArrM) : hBlank (b :: bs) a = if a.blank b then hBlank bs a else if (a.erase 4 b).1 ≠ 0 then a.erase 4 b else hBlank bs (a.erase 4 b).2 := rfl
section
variable {w : World} {γ : Col} {A : ArrA} {b : Nat} {m : HouseM} {K : Value → World → Prop}
theorem House_blank {v : Value} {bl : List Int} (h : HouseR w γ A b m) (hv : Ints w v bl) (hc : ∀ x, live v = some x → γ x = 0) (hl : bl.length ≤ 1000000)
    (k : ∀ w', Keep arrC w γ w' γ → HouseR w' γ A b { m with a := (hBlank bl m.a).2 } → K (i64 (hBlank bl m.a).1) w') : pCall P 67 [ptr b 0, v] K w := by
  refine c67 ?_
  unfold G67
  rw [hv.len (by simp), pVal_some]
  refine loop1_up bl.length (fun i w' => ∃ a', Keep arrC w γ w' γ ∧ HouseR w' γ A b { m with a := a' } ∧ hBlank bl m.a = hBlank (bl.drop i) a') ⟨m.a, Keep.refl h.wf, h, by rw [List.drop_zero]⟩ ?_
  rintro i w1 ag hag hi ⟨a1, hk1, hr1, he1⟩
  by_cases hil : i < bl.length
  · have hi' : (i : Int) < bl.length := by omega
    simp [hi']
    have hv1 : Ints w1 v bl := hv.ch hk1.ch fun x hx => by rw [hc x hx]; unfold arrC; omega
    obtain ⟨eb, eo, eT, el, _, heb, hidx, heo, hec, _⟩ := Sl.at hv1 (List.getElem?_eq_getElem hil) (by omega)
    rw [hidx _ _ idx_24, pVal_some]
    refine pLd1 heb lay_3 (take_one hec) ?_
    obtain ⟨xs, rs, h5, h6, h7, h8⟩ := hr1.mem
    refine pLd1 h5 lay_58 rfl ?_
    refine Nand_Blank hr1.arr ?_
    have hdrop : bl.drop i = bl[i] :: bl.drop (i + 1) := List.drop_eq_getElem_cons hil
    rw [hdrop, hBlank_cons] at he1
    rw [wrap_succ (by omega)]
    cases g : a1.blank bl[i] with
    | true =>
      simp only [g, if_true] at he1
      simp
      exact hag (i + 1) w1 (by omega) (by omega) ⟨a1, hk1, hr1, he1⟩
    | false =>
      simp only [g, Bool.false_eq_true, if_false] at he1
      simp
      refine pLd1 h5 lay_58 rfl ?_
      refine Nand_Erase hr1.wf hr1.arr fun w2 hk2 ha2 => ?_
      have hr2 : HouseR w2 γ A b { m with a := (a1.erase 4 bl[i]).2 } := hr1.arrK hk2 ha2 (erase_same a1 4 _).g
      have hk02 := hk1.trans hk2 fun _ h => h
      by_cases ge : (a1.erase 4 bl[i]).1 = 0
      · rw [if_neg (by simp [ge])] at he1
        simp [ge]
        exact hag (i + 1) w2 (by omega) (by omega) ⟨_, hk02, hr2, he1⟩
      · rw [if_pos ge] at he1
        simp [ge]
        have := k w2 hk02
        rw [he1] at this
        exact this hr2
  · have hi' : ¬ (i : Int) < bl.length := by omega
    simp [hi']
    rw [List.drop_of_length_le (by omega)] at he1
    have := k w1 hk1
    rw [he1] at this
    exact this hr1
def hCells0 (A : ArrA) (qs : List Nat) : List Value := hPre A 0 0 ledZs ++ (qs.flatMap (fun q => [.pointer none, ptr q 0]) ++ List.replicate (8 - 2 * qs.length) (.pointer none)) ++ [i64 0, .bool true]
theorem hCells0_len (A : ArrA) : ∀ qs : List Nat, qs.length ≤ 4 → (hCells0 A qs).length = 35
  | [], _ => rfl
  | [_], _ => rfl
  | [_, _], _ => rfl
  | [_, _, _], _ => rfl
  | [_, _, _, _], _ => rfl
  | _ :: _ :: _ :: _ :: _ :: _, h => by simp only [List.length_cons] at h; omega
theorem hCells0_set (A : ArrA) (q : Nat) : ∀ qs : List Nat, qs.length < 4 → (hCells0 A qs).set (25 + qs.length * 2 + 1) (ptr q 0) = hCells0 A (qs ++ [q])
  | [], _ => rfl
  | [_], _ => rfl
  | [_, _], _ => rfl
  | [_, _, _], _ => rfl
  | _ :: _ :: _ :: _ :: _, h => by simp only [List.length_cons] at h; omega
theorem hCells0_end (A : ArrA) : ∀ qs : List Nat, qs.length = 4 → hCells0 A qs = hCells A 0 0 ledZs (qs.map fun q => ⟨none, q⟩) 0 true
  | [_, _, _, _], _ => rfl
  | [], h => by cases h
  | [_], h => by cases h
  | [_, _], h => by cases h
  | [_, _, _], h => by cases h
  | _ :: _ :: _ :: _ :: _ :: _, h => by simp only [List.length_cons] at h; omega
def hNew (g : Geo) (fs : List (List Int)) (marked : List Int) : Int × HouseM :=
  let n := ArrM.make g ⟨-1, false, 0⟩ (DrawsM.make fs).2 marked
  (if (DrawsM.make fs).1 ≠ 0 then (DrawsM.make fs).1 else n.1, ⟨n.2, LedM.zero, List.replicate 4 ⟨none, ⟨[], []⟩⟩, 0, true⟩)
theorem hNew_bad {g : Geo} {fs : List (List Int)} {marked : List Int} (h : (DrawsM.make fs).1 ≠ 0) : (hNew g fs marked).1 = (DrawsM.make fs).1 := by
  unfold hNew; dsimp only; rw [if_pos h]
theorem hNew_arr {g : Geo} {fs : List (List Int)} {marked : List Int} (h : (DrawsM.make fs).1 = 0) : (hNew g fs marked).1 = (ArrM.make g ⟨-1, false, 0⟩ (DrawsM.make fs).2 marked).1 := by
  unfold hNew; dsimp only; rw [if_neg (by simp [h])]
theorem house_build (n p d : Nat) : buildV P 103 [(0, ptr n 0), (1, ptr p 0), (2, ptr d 0), (6, .bool true)] = some (.agg (hCells0 ⟨n, p, d⟩ []).toArray) := by
  simp [buildV_app, fillL, fillA, splice]
  rfl
theorem House_New {g : Geo} {vs : List Value} {fs : List (List Int)} {mv : Value} {marked : List Int} (hw : Wf w γ) (hf : Four w vs fs) (hm : Ints w mv marked) (hmc : ∀ x, live mv = some x → γ x = 0) (hml : marked.length ≤ 1000000000)
    (k0 : ∀ w', Fr w w' → (hNew g fs marked).1 ≠ 0 → K (.tuple #[.pointer none, i64 (hNew g fs marked).1]) w')
    (k : ∀ w' γ' b A, Keep (fun _ => False) w γ w' γ' → (hNew g fs marked).1 = 0 → w.heap.size ≤ b → HouseR w' γ' A b (hNew g fs marked).2 → K (.tuple #[ptr b 0, i64 0]) w') :
    pCall P 12 [.agg (g.cells ++ vs ++ [mv]).toArray] K w := by
  refine c12 ?_
  unfold G12
  refine pNew_of (g.cells ++ vs ++ [mv]) rfl fun sb w1 hsb hsbl hf1 h1 => ?_
  simp
  have hvl : vs.length = 4 := hf.1
  obtain ⟨f0, f1, f2, f3, rfl⟩ : ∃ f0 f1 f2 f3, vs = [f0, f1, f2, f3] := by
    match vs, hvl with
    | [a, b, c, d], _ => exact ⟨a, b, c, d, rfl⟩
  refine pLdN [f0, f1, f2, f3] h1 lay_25 (by simp [Geo.cells]) rfl ?_
  have hw1 : Wf w1 γ := (hf1.keep (C := hC) hw).wf
  refine Draws_New hw1 (hf.fr hf1) (fun w2 hf2 he => ?_) fun w2 γ2 d hk2 hd hdl hdr he => ?_
  · simp only [extractV_tuple, List.getElem?_toArray, List.getElem?_cons_zero, List.getElem?_cons_succ, pVal_some]
    have := k0 w2 (hf1.trans hf2)
    rw [hNew_bad he] at this
    simp [he]
    exact this he
  simp only [extractV_tuple, List.getElem?_toArray, List.getElem?_cons_zero, List.getElem?_cons_succ, pVal_some]
  simp
  refine Power_New fun p w3 hp hpl hf3 hpr => ?_
  have hk02 : Keep (fun _ => False) w γ w2 γ2 := (hf1.keep hw).trans hk2 fun _ h => h
  have hk3 : Keep (fun _ => False) w γ w3 (γ2.paint p 6) := (hk02.trans (hf3.keep hk2.wf) fun _ h => h).paint (by have := hk02.size; omega) hpl
  have h13 := (hk2.ch.blk h1 fun h => h)
  have h13 := hf3.blk h13 fun h => h
  refine pLdN g.cells h13 lay_23 (by simp [Geo.cells]) rfl ?_
  refine pLd1 h13 lay_24 rfl ?_
  have hk23 : Keep (fun _ => False) w2 γ2 w3 (γ2.paint p 6) := (hf3.keep hk2.wf).paint (by omega) hpl
  have hm3 : Ints w3 mv marked := hm.ch hk3.ch fun _ _ h => h
  have hmc3 : ∀ x, live mv = some x → (γ2.paint p 6) x = 0 := fun x hx => (hk3.col x (hm.live_lt hx)).trans (hmc x hx)
  refine Nand_New (g := g) hk3.wf hpr Col.paint_same (hdr.keep hk23 (fun h => h) fun h => h) hm3 hmc3 hml (fun w4 hf4 he4 => ?_) fun w4 γ4 n hk4 hnl harr he4 => ?_
  · simp only [extractV_tuple, List.getElem?_toArray, List.getElem?_cons_zero, List.getElem?_cons_succ, pVal_some]
    have hne := hNew_arr (g := g) (marked := marked) he
    have hfr : Fr w w4 := (hk3.trans (hf4.keep (C := fun _ => False) hk3.wf) fun _ h => h).ch
    have := k0 w4 hfr
    rw [hne] at this
    simp [he4]
    exact this he4
  simp only [extractV_tuple, List.getElem?_toArray, List.getElem?_cons_zero, List.getElem?_cons_succ, pVal_some]
  simp
  rw [house_build, pVal_some]
  have hn0 : (hNew g fs marked).1 = 0 := (hNew_arr he).trans he4
  obtain ⟨A, hA⟩ : ∃ A : ArrA, A = ⟨n, p, d⟩ := ⟨_, rfl⟩
  rw [← hA] at harr ⊢
  refine pNew_of (hCells0 A []) (by simp) fun hb w5 hhb hhbl hf5 b5 => ?_
  obtain ⟨γ5, hγ5⟩ : ∃ γ5, γ5 = γ4.paint hb 2000 := ⟨_, rfl⟩
  have hk45 : Keep (fun _ => False) w4 γ4 w5 γ5 := by rw [hγ5]; exact (hf5.keep hk4.wf).paint (by omega) hhbl
  have c5 : γ5 hb = 2000 := by rw [hγ5]; exact Col.paint_same
  have hk05 : Keep (fun _ => False) w γ w5 γ5 := (hk3.trans hk4 fun _ h => h).trans hk45 fun _ h => h
  have harr5 := harr.keep hk45 fun _ _ _ _ h => h
  have s4 : w.heap.size ≤ hb := by have := (hk3.trans hk4 fun _ h => h).size; omega
  have key : ∀ w' γ' (qs : List Nat), qs.length = 4 → Keep (fun _ => False) w γ w' γ' → ArrR w' γ' A (hNew g fs marked).2.a → Blk w' hb 103 (hCells0 A qs) → γ' hb = 2000 → (∀ (j q : Nat), qs[j]? = some q → QueueR w' γ' (qC j) q ⟨[], []⟩) → K (.tuple #[ptr hb 0, i64 0]) w' := by
    intro w' γ' qs hql hk' ha' hb' hc' hq'
    refine k w' γ' hb A hk' hn0 s4 ⟨hk'.wf, hc', ha', ?_, ledZs, qs.map fun q => ⟨none, q⟩, ?_, ledZs_x w', fun x hx q hq => ?_, ?_⟩
    · have hg : (hNew g fs marked).2.a.g = g := by
        unfold hNew ArrM.make; dsimp only; split
        · rfl
        · split <;> rfl
      rw [hg]
      have hgc : g.check = 0 := by
        unfold ArrM.make at he4
        split at he4
        · rename_i h1 ; exact he4
        · rename_i h1; simpa using h1
      have := Geo.check_ok hgc
      omega
    · rw [hCells0_end A qs hql] at hb'; exact hb'
    · rw [List.eq_of_mem_replicate hx] at hq; cases hq
    · refine ⟨by rw [List.length_map, hql], rfl, fun t r m h1 h2 => ?_⟩
      rw [List.getElem?_map] at h1
      obtain ⟨q, h3, rfl⟩ := Option.map_eq_some_iff.1 h1
      have h2' : m = ⟨none, ⟨[], []⟩⟩ := List.eq_of_mem_replicate (List.mem_of_getElem? h2)
      subst h2'
      exact ⟨hq' t q h3, trivial⟩
  have ha5 : ArrR w5 γ5 A (hNew g fs marked).2.a := harr5
  refine loop1_up 4 (fun i w' => ∃ γ' qs, qs.length = i ∧ Keep (fun _ => False) w γ w' γ' ∧ ArrR w' γ' A (hNew g fs marked).2.a ∧ Blk w' hb 103 (hCells0 A qs) ∧ γ' hb = 2000 ∧ (∀ (j q : Nat), qs[j]? = some q → QueueR w' γ' (qC j) q ⟨[], []⟩)) ⟨γ5, [], rfl, hk05, ha5, b5, c5, fun j q h => by cases h⟩ ?_
  rintro i w6 ag hag hi ⟨γ6, qs, hql, hk6, ha6, b6, c6, hq6⟩
  by_cases hi4 : i < 4
  · have hi' : (i : Int) < 4 := by omega
    simp [hi']
    refine pDraw_fr (fun w' => Fr w6 w') fun w7 hf7 _ _ => ⟨hf7, ?_⟩
    refine Queue_New (qC i) (hf7.keep (C := hC) hk6.wf).wf fun w8 γ8 q hk8 hql8 hqr => ?_
    have hk68 : Keep (fun _ => False) w6 γ6 w8 γ8 := (hf7.keep hk6.wf).trans hk8 fun _ h => h
    have b8 := hk68.blk b6 fun h => h
    refine pSt1 b8 lay_98 (by simp) rfl (by rw [hCells0_len _ _ (by omega)]; omega) fun w9 hc9 b9 => ?_
    rw [← hql, hCells0_set A q qs (by omega)] at b9
    have hk9 : Keep (fun x => x = 2000) w8 γ8 w9 γ8 := hc9.keep hk8.wf fun x _ hx => by subst hx; rw [hk68.col _ b6.lt]; exact c6
    have hk69 : Keep (fun x => x = 2000) w6 γ6 w9 γ8 := (hk68.mono fun _ h => h.elim).trans hk9 fun _ h => h
    rw [wrap_succ (by omega)]
    refine hag (i + 1) w9 (by omega) (by omega) ⟨γ8, qs ++ [q], by simp [hql], ?_, ha6.keep hk69 fun c _ _ _ hx => by omega, b9, (hk68.col _ b6.lt).trans c6, fun j q' hj => ?_⟩
    · refine ⟨(hk6.trans hk68 fun _ h => h).ch.trans hc9 fun x hx hxb => by omega, (hk6.trans hk68 fun _ h => h).col, hk9.wf⟩
    · by_cases hji : j < i
      · rw [List.getElem?_append_left (by omega)] at hj
        exact (hq6 j q' hj).keep hk69 (by unfold qC; omega) (by unfold qC; omega) (by unfold qC; omega)
      · have hj' := (List.getElem?_eq_some_iff.1 hj).1
        simp [hql] at hj'
        have : j = i := by omega
        subst this
        rw [List.getElem?_append_right (by omega), hql, Nat.sub_self] at hj
        cases hj
        exact hqr.keep hk9 (by unfold qC; omega) (by unfold qC; omega) (by unfold qC; omega)
  · have hi4' : i = 4 := by omega
    subst hi4'
    simp
    exact key w6 γ6 qs hql hk6 ha6 b6 c6 hq6
end
end Go.Al

namespace Go.Al
open Go Go.Proofs
theorem adPlace_same (a : ArrM) (b : Int) : SameBad a (adPlace a b).a := by
  unfold adPlace
  split
  · exact SameBad.refl a
  split
  · exact SameBad.refl a
  split
  · exact erase_same a 4 _
  · exact erase_same a 4 _
theorem adSave_same (a : ArrM) (l : LedM) : SameBad a (adSave a l).2 := by
  unfold adSave
  split
  · exact SameBad.refl a
  · split
    · exact SameBad.refl a
    split
    · exact SameBad.refl a
    split
    · exact adPlace_same a _
    · exact (adPlace_same a _).trans (program_same _ _ _ _ _ _)
theorem PagesR.recolR {w : World} {γ γ' : Col} {c : Nat} {v : Value} {pages : List PageM} (h : PagesR w γ c v pages) (hc : 0 < c) (hr : Recol γ γ') : PagesR w γ' c v pages := by
  obtain ⟨ys, h1, h2, h3, h5⟩ := h
  exact ⟨ys, h1, h2, fun b hb => hr.at (h3 b hb) hc, fun y hy => ⟨(h5 y hy).1, fun b hb => hr.at ((h5 y hy).2 b hb) (by omega)⟩⟩
theorem BlocksR.recolR {w : World} {γ γ' : Col} {v : Value} {bl : List BlockM} (h : BlocksR w γ v bl) (hr : Recol γ γ') : BlocksR w γ' v bl := by
  obtain ⟨xs, h1, h3, h5, h6⟩ := h
  exact ⟨xs, h1, h3, fun b hb => hr.at (h5 b hb) (by omega), fun i x hx => (h6 i x hx).recolR (by omega) hr⟩
theorem DrawsR.recolR {w : World} {γ γ' : Col} {b : Nat} {d : DrawsM} (h : DrawsR w γ b d) (hr : Recol γ γ') : DrawsR w γ' b d := by
  obtain ⟨h1, h2, h2', xs, h3, h4, h5⟩ := h
  exact ⟨hr.at h1 (by omega), h2, h2', xs, h3, h4, fun x hx => ⟨(h5 x hx).1, fun c hc => hr.at ((h5 x hx).2 c hc) (by omega)⟩⟩
theorem ArrR.recolR {w : World} {γ γ' : Col} {A : ArrA} {a : ArrM} (h : ArrR w γ A a) (hr : Recol γ γ') : ArrR w γ' A a := by
  obtain ⟨a1, a2, a3, a4, ⟨v, a5, a6⟩, a7⟩ := h
  exact ⟨hr.at a1 (by omega), hr.at a2 (by omega), a3, a4.recolR hr, ⟨v, a5, a6.recolR hr⟩, a7⟩
theorem QueueR.recolR {w : World} {γ γ' : Col} {c b : Nat} {q : QueueM} (h : QueueR w γ c b q) (hc : 0 < c) (hr : Recol γ γ') : QueueR w γ' c b q := by
  obtain ⟨a1, a2, wv, dv, a3, a4, a5, a6, a7⟩ := h
  exact ⟨hr.at a1 hc, a2, wv, dv, a3, a4, a5, fun x hx => hr.at (a6 x hx) (by omega), fun x hx => hr.at (a7 x hx) (by omega)⟩
theorem StoreR.recolR {w : World} {γ γ' : Col} {n c b : Nat} {s : StoreM} (h : StoreR w γ n c b s) (hr : Recol γ γ') : StoreR w γ' n c b s := by
  obtain ⟨h0, h1, h2, bv, tb, wb, h3, h4, h5, h6, h7⟩ := h
  exact ⟨h0, hr.at h1 (by omega), h2, bv, tb, wb, h3, h4, fun x hx => hr.at (h5 x hx) (by omega), h6.recolR (by omega) hr, h7.recolR (by omega) hr⟩
theorem RoomsR.recolR {w : World} {γ γ' : Col} {n : Nat} {rs : List RoomA} {rooms : List RoomM} (h : RoomsR w γ n rs rooms) (hr : Recol γ γ') : RoomsR w γ' n rs rooms := by
  refine ⟨h.len, h.len', fun t r m h1 h2 => ⟨(h.room t r m h1 h2).1.recolR (by unfold qC; omega) hr, ?_⟩⟩
  have := (h.room t r m h1 h2).2
  revert this
  cases r.s <;> cases m.store <;> intro this
  · trivial
  · exact this
  · exact this
  · exact StoreR.recolR this hr
/-- All blocks of a class are given a colour. -/
noncomputable def Col.paintS (γ : Col) (S : Nat → Prop) (c : Nat) : Col := fun x => open Classical in if S x then c else γ x
theorem Col.paintS_in {γ : Col} {S : Nat → Prop} {c x : Nat} (h : S x) : γ.paintS S c x = c := by unfold Col.paintS; rw [if_pos h]
theorem Col.paintS_out {γ : Col} {S : Nat → Prop} {c x : Nat} (h : ¬ S x) : γ.paintS S c x = γ x := by unfold Col.paintS; rw [if_neg h]
theorem Keep.paintS {C : Nat → Prop} {w w' : World} {γ γ' : Col} (h : Keep C w γ w' γ') {S : Nat → Prop} {c : Nat} (hS : ∀ x, S x → w.heap.size ≤ x ∧ x < w'.heap.size) : Keep C w γ w' (γ'.paintS S c) :=
  ⟨h.ch, fun x hx => by rw [Col.paintS_out fun hs => by have := hS x hs; omega]; exact h.col x hx, fun x hx => by rw [Col.paintS_out fun hs => by have := hS x hs; omega]; exact h.wf x hx⟩
def HouseM.keep (m : HouseM) (l : LedM) (e : Int) (f : HouseM → HouseM) : Int × HouseM :=
  if e ≠ 0 then (e, m.settle) else
  if (adSave m.a l).1 ≠ 0 then ((adSave m.a l).1, ({ m with a := (adSave m.a l).2 } : HouseM).settle) else
  (0, (f { m with a := (adSave m.a l).2, led := l }).settle)
section
variable {w w0 : World} {γ γ0 : Col} {A : ArrA} {b : Nat} {m : HouseM} {K : Value → World → Prop}
theorem House_keep {l : LedM} {ys : List (TenM × Value)} {e : Int} {fv : Value} (f : HouseM → HouseM) (h0 : Keep hC w0 γ0 w γ) (h : HouseR w γ A b m) (hx : LedX w ys l) (hf : ∀ x ∈ ys, ∀ q, live x.2 = some q → w0.heap.size ≤ q ∧ γ q = 0)
    (kt : e = 0 → ∀ w' γ' (K' : Value → World → Prop), Keep hC w0 γ0 w' γ' → Ch (fun x => hC (γ x)) w w' → (∀ x, x < w.heap.size → (∀ y ∈ ys, live y.2 ≠ some x) → γ' x = γ x) →
      HouseR w' γ' A b { m with a := (adSave m.a l).2, led := l } → LedX w' ys l → (∀ x ∈ ys, ∀ q, live x.2 = some q → γ' q = 2001) →
      (∀ v w'' γ'', Keep hC w' γ' w'' γ'' → HouseR w'' γ'' A b (f { m with a := (adSave m.a l).2, led := l }) → K' v w'') → pCallV P fv [] K' w')
    (k : ∀ w' γ', Keep hC w0 γ0 w' γ' → HouseR w' γ' A b (m.keep l e f).2 → K (i64 (m.keep l e f).1) w') : pCall P 69 [ptr b 0, ledVal l ys, i64 e, fv] K w := by
  refine c69 ?_
  unfold G69
  refine pNew_of (ledCells l.gen l.epochs ys) rfl fun lb w1 hlb hlbl hf1 b1 => ?_
  have hh := h.fr hf1
  have hk1 : Keep hC w γ w1 γ := hf1.keep h.wf
  have hy1 := hx.fr hf1
  unfold HouseM.keep at k
  by_cases he : e = 0
  rotate_left
  · rw [if_pos he] at k
    refine pJoin1_in ?_
    simp [he]
    refine House_settle hh fun w2 hk2 hr2 => ?_
    exact k w2 γ ((h0.trans hk1 fun _ h => h).trans hk2 fun _ h => h) hr2
  subst he
  rw [if_neg (by simp)] at k
  refine join1 (fun v w' => ∃ γ', v = i64 (adSave m.a l).1 ∧ Keep arrC w1 γ w' γ' ∧ HouseR w' γ' A b { m with a := (adSave m.a l).2 }) ?_ ?_
  rotate_left
  · intro J hJ
    simp
    obtain ⟨xs, rs, h5, h6, h7, h8⟩ := hh.mem
    refine pDraw_fr (fun w' => Fr w1 w') fun w2 hf2 _ _ => ⟨hf2, ?_⟩
    refine pHld1 (fun w' hS => hS.blk h5 fun h => h) lay_58 rfl ?_
    refine pHldN (ledCells l.gen l.epochs ys) (fun w' hS => hS.blk b1 fun h => h) lay_56 (by rw [ledCells_len hx.len]; omega) (by rw [List.drop_zero, List.take_of_length_le (by rw [ledCells_len hx.len]; omega)]) ?_
    have hh2 := hh.fr hf2
    refine Adlog_Save hh2.wf hh2.arr h.pages.2 (hy1.fr hf2) fun w3 γ3 hk3 ha3 => ?_
    refine hJ _ w3 ⟨γ3, rfl, (hf2.keep hh.wf).trans hk3 fun _ h => h, hh2.arrK hk3 ha3 (adSave_same m.a l).g⟩
  rintro v w2 ⟨γ2, rfl, hk2, hr2⟩
  have hk2' : Keep hC w1 γ w2 γ2 := hk2.mono fun x hx => by unfold arrC at hx; unfold hC; omega
  have hk02 := (h0.trans hk1 fun _ h => h).trans hk2' fun _ h => h
  by_cases hs : (adSave m.a l).1 = 0
  rotate_left
  · rw [if_pos hs] at k
    simp [hs]
    refine House_settle hr2 fun w3 hk3 hr3 => ?_
    exact k w3 γ2 (hk02.trans hk3 fun _ h => h) hr3
  rw [if_neg (by simp [hs])] at k
  simp [hs]
  have b2 : Blk w2 lb 56 (ledCells l.gen l.epochs ys) := hk2.blk b1 (by rw [h.wf lb (by omega)]; unfold arrC; omega)
  refine pLdN (ledCells l.gen l.epochs ys) b2 lay_56 (by rw [ledCells_len hx.len]; omega) (by rw [List.drop_zero, List.take_of_length_le (by rw [ledCells_len hx.len]; omega)]) ?_
  obtain ⟨xs, rs, h5, h6, h7, h8⟩ := hr2.mem
  have hy2 : LedX w2 ys l := hy1.ch hk2.ch fun x hx' q hq => by rw [(hf x hx' q hq).2]; unfold arrC; omega
  refine pStN (ledCells l.gen l.epochs ys) h5 lay_56 rfl (ledCells_len hx.len _ _) (by rw [hCells_len h6.len h8.len]; omega) (ledCells_one hx _ _) fun w3 hc3 b3 => ?_
  rw [hCells_setLed h6.len l.gen l.epochs hx.len] at b3
  have hk3 : Keep (fun x => x = 2000) w2 γ2 w3 γ2 := hc3.keep hr2.wf fun x _ hx => by subst hx; exact hr2.col
  have hk03 : Keep hC w0 γ0 w3 γ2 := hk02.trans (hk3.mono (C' := hC) fun x hx => by subst hx; unfold hC; omega) fun _ h => h
  obtain ⟨S, hS⟩ : ∃ S : Nat → Prop, S = fun x => ∃ y ∈ ys, live y.2 = some x := ⟨_, rfl⟩
  have hSl : ∀ x, S x → w0.heap.size ≤ x ∧ x < w3.heap.size ∧ x < w.heap.size ∧ γ x = 0 ∧ γ2 x = 0 := by
    intro x hx'
    rw [hS] at hx'
    obtain ⟨y, hy, hq⟩ := hx'
    have h1 := hf y hy x hq
    have h2 := (hx.mem y hy).live_lt hq
    have h3 := hk1.size
    have h4 := hk2.size
    have h5 := hk3.size
    exact ⟨h1.1, by omega, h2, h1.2, by rw [hk2.col x (by omega)]; exact h1.2⟩
  obtain ⟨γ3, hγ3⟩ : ∃ γ3, γ3 = γ2.paintS S 2001 := ⟨_, rfl⟩
  have hk03' : Keep hC w0 γ0 w3 γ3 := by rw [hγ3]; exact hk03.paintS fun x hx => ⟨(hSl x hx).1, (hSl x hx).2.1⟩
  have hrec : Recol γ2 γ3 := fun q hq => by rw [hγ3]; exact Col.paintS_out fun hs => hq (hSl q hs).2.2.2.2
  have hy3 : LedX w3 ys l := hy2.ch hc3 fun x hx' q hq he => by
    have h1 := hSl q (by rw [hS]; exact ⟨x, hx', hq⟩)
    rw [he, hr2.col] at h1; omega
  have hcol3 : ∀ x ∈ ys, ∀ q, live x.2 = some q → γ3 q = 2001 := fun x hx' q hq => by rw [hγ3]; exact Col.paintS_in (by rw [hS]; exact ⟨x, hx', hq⟩)
  have hr3 : HouseR w3 γ3 A b { m with a := (adSave m.a l).2, led := l } :=
    ⟨hk03'.wf, hrec.at hr2.col (by omega), (hr2.arr.keep hk3 fun c _ _ _ hx => by omega).recolR hrec, hr2.pages, ys, rs, b3, hy3, hcol3, (h8.keep hk3 fun x hx => by omega).recolR hrec⟩
  refine kt rfl w3 γ3 _ hk03' ?_ (fun x hxl hx' => ?_) hr3 hy3 hcol3 fun v w4 γ4 hk4 hr4 => ?_
  · refine (hk1.ch.trans hk2'.ch fun x hxl hxx => hxx).trans hc3 fun x hxl hxx => ?_
    subst hxx
    have := hk2.col x (by have := hk1.size; omega)
    rw [hr2.col] at this
    rw [← this]; unfold hC; omega
  · rw [hγ3, Col.paintS_out, hk2.col x (by have := hk1.size; omega)]
    rw [hS]
    rintro ⟨y, hy, hq⟩
    exact hx' y hy hq
  · refine House_settle hr4 fun w5 hk5 hr5 => ?_
    exact k w5 γ4 ((hk03'.trans hk4 fun _ h => h).trans hk5 fun _ h => h) hr5
end
end Go.Al

namespace Go.Al
open Go Go.Proofs
theorem make_zero {l : LedM} {n : LedM} (h : (l.make n).1 ≠ 0) : (l.make n).2 = LedM.zero := by
  unfold LedM.make at h ⊢
  split
  · rfl
  · rename_i g; rw [if_neg g] at h; exact absurd rfl h
theorem create_zero {l : LedM} {t size spare : Int} {got : List Int} (h : (l.create t size spare got).1 ≠ 0) : (l.create t size spare got).2 = LedM.zero := by
  unfold LedM.create at h ⊢
  split
  · rfl
  split
  · rfl
  split
  · rfl
  split
  · rfl
  · rename_i g1 g2 g3 g4; rw [if_neg g1, if_neg g2, if_neg g3, if_neg g4] at h; exact make_zero h
theorem ledZ_fresh (w : World) : ∀ x ∈ ledZs, Fresh w x.2 := fun x hx => by rw [List.eq_of_mem_replicate hx]; exact Fresh.nil _
section
variable {w : World} {l : LedM} {xs : List (TenM × Value)} {K : Value → World → Prop}
theorem Ledger_Create' {t size spare : Int} {gv : Value} {got : List Int} (h : LedX w xs l) (ok : l.ok) (hg : Ints w gv got) (hgl : got.length ≤ 1000)
    (k : ∀ w' ys, Fr w w' → LedX w' ys (l.create t size spare got).2 → (∀ x ∈ ys, Fresh w x.2) → K (.tuple #[ledVal (l.create t size spare got).2 ys, i64 (l.create t size spare got).1]) w') :
    pCall P 63 [ledVal l xs, i64 t, i64 size, i64 spare, gv] K w := by
  refine Ledger_Create h ok hg hgl (fun w' hf he => ?_) fun w' ys hf he hx hy => ?_
  · have := k w' ledZs hf (by rw [create_zero he]; exact ledZs_x _) (ledZ_fresh w)
    rw [create_zero he] at this
    exact this
  · have := k w' ys hf hx hy
    rw [he] at this
    exact this
end
/-- A ledger that is told is kept in a variable: the call first, or the variable. -/
theorem led_pair {w : World} {f : FuncId} {args : List Value} {S : World → Prop} {l : LedM} {e : Int} (J : Value → Value → World → Prop) (hS : ∀ w', Fr w w' → S w')
    (hc : ∀ w' (K : Value → World → Prop), Fr w w' → (∀ w'' ys, Fr w' w'' → LedX w'' ys l → (∀ x ∈ ys, Fresh w' x.2) → K (.tuple #[ledVal l ys, i64 e]) w'') → pCall P f args K w')
    (hJ : ∀ w' lb ys, Fr w w' → w.heap.size ≤ lb → Blk w' lb 56 (ledCells l.gen l.epochs ys) → LedX w' ys l → (∀ x ∈ ys, ∀ q, live x.2 = some q → w.heap.size ≤ q ∧ q ≠ lb) → J (ptr lb 0) (i64 e) w') :
    (pAnd (pCall P f args fun v27 => pKeep true S <| pVal (extractV v27 0) fun v28 => pVal (extractV v27 1) fun v29 => pAlloc P 56 fun v9 => pKeep true S <| pSt P 56 v9 v28 <| J v9 v29)
      (pAlloc P 56 fun v9 => pKeep true S <| pCall P f args fun v27 => pKeep true S <| pVal (extractV v27 0) fun v28 => pVal (extractV v27 1) fun v29 => pSt P 56 v9 v28 <| J v9 v29)) w := by
  have st : ∀ (w2 : World) lb l0 ys, Fr w w2 → w.heap.size ≤ lb → Blk w2 lb 56 l0 → l0.length = 22 → LedX w2 ys l → (∀ x ∈ ys, ∀ q, live x.2 = some q → w.heap.size ≤ q ∧ q ≠ lb) → (pSt P 56 (ptr lb 0) (ledVal l ys) <| J (ptr lb 0) (i64 e)) w2 := by
    intro w2 lb l0 ys hf2 hlb b2 hl0 hx2 hlv
    refine pStN (ledCells l.gen l.epochs ys) b2 lay_56 rfl (ledCells_len hx2.len _ _) (by omega) (ledCells_one hx2 _ _) fun w3 hc3 b3 => ?_
    have e : splice l0 0 (ledCells l.gen l.epochs ys) = ledCells l.gen l.epochs ys := by
      unfold splice
      rw [List.take_zero, List.nil_append, List.drop_of_length_le (by rw [ledCells_len hx2.len]; omega), List.append_nil]
    rw [e] at b3
    exact hJ w3 lb ys (hf2.trans' hlb hc3) hlb b3 (hx2.ch hc3 fun x hx q hq he => (hlv x hx q hq).2 he) hlv
  rw [pAnd_app]
  constructor
  · refine hc w _ (Ch.refl _ _) fun w1 ys hf1 hx1 hy1 => ?_
    rw [pKeep_true]
    refine ⟨hS _ hf1, ?_⟩
    simp only [extractV_tuple, List.getElem?_toArray, List.getElem?_cons_zero, List.getElem?_cons_succ, pVal_some]
    refine pAlloc_of (ledCells 0 0 ledZs) zero_56 rfl fun lb w2 hlb hlbl hf2 b2 => ?_
    rw [pKeep_true]
    refine ⟨hS _ (hf1.trans hf2), ?_⟩
    have s1 := hf1.size
    exact st w2 lb _ ys (hf1.trans hf2) (by omega) b2 rfl (hx1.fr hf2) fun x hx q hq => ⟨hy1 x hx q hq, by have := (hx1.mem x hx).live_lt hq; omega⟩
  · refine pAlloc_of (ledCells 0 0 ledZs) zero_56 rfl fun lb w2 hlb hlbl hf2 b2 => ?_
    rw [pKeep_true]
    refine ⟨hS _ hf2, ?_⟩
    refine hc w2 _ hf2 fun w1 ys hf1 hx1 hy1 => ?_
    rw [pKeep_true]
    refine ⟨hS _ (hf2.trans hf1), ?_⟩
    simp only [extractV_tuple, List.getElem?_toArray, List.getElem?_cons_zero, List.getElem?_cons_succ, pVal_some]
    have s2 := hf2.size
    exact st w1 lb _ ys (hf2.trans hf1) (by omega) (hf1.blk b2 fun h => h) rfl hx1 fun x hx q hq => by have := hy1 x hx q hq; constructor <;> omega
section
variable {w : World} {γ : Col} {A : ArrA} {b : Nat} {m : HouseM} {K : Value → World → Prop}
end
end Go.Al

namespace Go.Al
open Go Go.Proofs
theorem hCells_putRoom {A : ArrA} {g e : Int} {xs : List (TenM × Value)} {rs : List RoomA} {slots : Int} {up : Bool} (h : xs.length = 4) {i : Nat} (hi : i < rs.length) (r : RoomA) :
    splice (hCells A g e xs rs slots up) (25 + i * 2) (cRoom r) = hCells A g e xs (rs.set i r) slots up := by
  have := flat_set cRoom_len hi r (hPre A g e xs) [i64 slots, .bool up]
  rw [hPre_len h] at this
  simpa [hCells] using this
def HouseM.putRoom (m : HouseM) (t : Nat) (r : RoomM) : HouseM := { m with rooms := m.rooms.set t r }
def hRoom (a : ArrM) (t : Int) (x : TenM) : RoomM := ⟨if newBad a t x then none else some (storeNew a t x), ⟨[], []⟩⟩
def HouseM.create (m : HouseM) (t size spare : Int) : Int × HouseM :=
  if m.up = false then (12, m) else
  if (m.led.create t size spare []).1 ≠ 0 then ((m.led.create t size spare []).1, m) else
  if ((m.led.free m.a.bl.length m.a.bad).length : Int) < ruleTotal size spare m.a.g.pages then (8, m) else
  let g := (m.led.free m.a.bl.length m.a.bad).take (ruleTotal size spare m.a.g.pages).toNat
  let m1 : HouseM := { m with a := (hBlank g m.a).2 }
  if (hBlank g m.a).1 ≠ 0 then ((hBlank g m.a).1, m1.settle) else
  m1.keep (m.led.create t size spare g).2 (m.led.create t size spare g).1 fun m' => m'.putRoom t.toNat (hRoom m'.a t ((m.led.create t size spare g).2.ten t))
theorem create_ok {l : LedM} {t size spare : Int} {got : List Int} (h : (l.create t size spare got).1 = 0) :
    0 ≤ t ∧ t < 4 ∧ ruleCheck size spare = 0 ∧ (l.create t size spare got).2 = ⟨l.gen + 1, l.epochs + 1, l.tens.set t.toNat ⟨true, l.epochs + 1, size, spare, got⟩⟩ := by
  unfold LedM.create at h ⊢
  split at h
  · cases h
  rename_i g1
  split at h
  · rename_i g2; exact absurd h g1
  rename_i g2
  split at h
  · rename_i g3; exact absurd h g3
  rename_i g3
  split at h
  · cases h
  rename_i g4
  rw [if_neg g1, if_neg g2, if_neg g3, if_neg g4]
  have g2 : l.there t = 6 := by simpa using g2
  have g3 : ruleCheck size spare = 0 := by simpa using g3
  have ht : 0 ≤ t ∧ t < 4 := by
    unfold LedM.there at g2
    split at g2
    · cases g2
    · omega
  refine ⟨ht.1, ht.2, g3, ?_⟩
  unfold LedM.make at h ⊢
  split at h
  · cases h
  · rename_i g5; rw [if_neg g5]
theorem led_entry {xs : List (TenM × Value)} {g e : Int} {i : Nat} {x : TenM × Value} (hi : xs[i]? = some x) : ((ledCells g e xs).drop (2 + i * 5)).take 5 = cTen x := by
  apply List.ext_getElem?
  intro k
  rw [List.getElem?_take, List.getElem?_drop]
  split
  · rename_i hk
    rw [← led_get hi g e hk]
    congr 1; omega
  · rw [List.getElem?_eq_none]; rw [cTen_len]; omega
theorem ruleTotal_le {size spare pages : Int} : 0 ≤ ruleTotal size spare pages ∧ ruleTotal size spare pages ≤ 80 := by
  unfold ruleTotal
  split
  · omega
  · rename_i g
    have g2 : ruleCheck size spare = 0 := Classical.byContradiction fun h => g (.inl h)
    unfold ruleCheck at g2
    split at g2
    · cases g2
    have := ruleData_le (size := size) (pages := pages)
    omega
section
variable {w : World} {γ : Col} {A : ArrA} {b : Nat} {m : HouseM} {K : Value → World → Prop}
/-- A room was written. -/
theorem HouseR.putRoom {w1 w2 : World} {γ1 : Col} {t q : Nat} {os : Option Nat} {x : RoomM} {l : List Value} (h : HouseR w γ A b m) (ht : t < 4) (hk : Keep (fun _ => False) w γ w1 γ1) (hc : Ch (· = b) w1 w2)
    (hq : QueueR w1 γ1 (qC t) q x.queue) (hs : OptS w1 γ1 A.n (sC t) os x.store)
    (hb : ∀ xs rs, Blk w b 103 (hCells A m.led.gen m.led.epochs xs rs m.slots m.up) → xs.length = 4 → rs.length = 4 → Blk w2 b 103 (splice (hCells A m.led.gen m.led.epochs xs rs m.slots m.up) (25 + t * 2) (cRoom ⟨os, q⟩))) :
    Keep hC w γ w2 γ1 ∧ HouseR w2 γ1 A b (m.putRoom t x) := by
  obtain ⟨h1, h2, h3, h4, xs, rs, h5, h6, h7, h8⟩ := h
  have hb2 := hb xs rs h5 h6.len h8.len
  rw [hCells_putRoom h6.len (by rw [h8.len]; exact ht)] at hb2
  have c1 : γ1 b = 2000 := (hk.col b h5.lt).trans h2
  have hk12 : Keep (fun x => x = 2000) w1 γ1 w2 γ1 := hc.keep hk.wf fun x _ hx => by subst hx; exact c1
  have hk2 : Keep (fun x => x = 2000) w γ w2 γ1 := (hk.mono fun _ h => h.elim).trans hk12 fun _ h => h
  have hL := h6.keep h7 hk2 (by omega)
  refine ⟨hk2.mono fun x hx => by subst hx; unfold hC; omega, hk2.wf, c1, h3.keep hk2 fun c _ _ _ hx => by omega, h4, xs, rs.set t ⟨os, q⟩, hb2, hL.1, hL.2, ?_⟩
  exact h8.set (t := t) (r := ⟨os, q⟩) (x := x) hk2 (fun x hx => by omega) (hq.keep hk12 (by unfold qC; omega) (by unfold qC; omega) (by unfold qC; omega)) (hs.keep hk12 fun x hx => by unfold stC sC at hx; omega)
theorem Create_then {l : LedM} {ys : List (TenM × Value)} {t : Int} {hb tb lb : Nat} (h : HouseR w γ A b m) (ht : 0 ≤ t ∧ t < 4) (b1 : Blk w hb 38 [ptr b 0]) (b2 : Blk w tb 3 [i64 t]) (b3 : Blk w lb 56 (ledCells l.gen l.epochs ys))
    (hx : LedX w ys l) (hsp : 0 ≤ (l.ten t).spare ∧ (l.ten t).spare ≤ 1000) (k : ∀ w' γ', Keep hC w γ w' γ' → HouseR w' γ' A b (m.putRoom t.toNat (hRoom m.a t (l.ten t))) → K (.tuple #[]) w') :
    pCall P 70 [ptr hb 0, ptr tb 0, ptr lb 0] K w := by
  refine c70 ?_
  unfold G70
  refine pDraw_fr (fun w' => Fr w w') fun w1 hf1 _ _ => ⟨hf1, ?_⟩
  refine pHld1 (fun w' hS => hS.blk b1 fun h => h) lay_38 rfl ?_
  obtain ⟨xs, rs, h5, h6, h7, h8⟩ := h.mem
  simp
  refine pHld1 (fun w' hS => hS.blk h5 fun h => h) lay_58 rfl ?_
  refine pHld1 (fun w' hS => hS.blk b2 fun h => h) lay_3 rfl ?_
  refine pHld1 (fun w' hS => hS.blk b2 fun h => h) lay_3 rfl ?_
  simp
  rw [if_pos (by omega), pVal_some]
  obtain ⟨x, hx1, hx2, hx3⟩ := HouseR.ten hx (t := t) (by omega) (by omega)
  refine pHldN (cTen x) (fun w' hS => hS.blk b3 fun h => h) lay_53 (by rw [ledCells_len hx.len]; omega) ?_ ?_
  · exact led_entry hx1
  have hr1 := h.fr hf1
  rw [hx3] at hsp
  have hf := hx.few x hx2
  have tail : ∀ w2 γ2 os, Keep (fun _ => False) w γ w2 γ2 → OptS w2 γ2 A.n (sC t.toNat) os (hRoom m.a t (l.ten t)).store →
      (pDraw fun S1 => pHld P S1 38 (ptr hb 0) fun v18 => pHld P S1 3 (ptr tb 0) fun v19 => pNil v18 fun v23 => pVal (fieldV P 103 v23 4) fun v24 => pCall P 53 [] fun v21 => pKeep true S1 <|
        pVal (buildV P 100 [(0, sPtr os), (1, v21)]) fun v22 => pVal (indexV P 101 v24 v19) fun v25 => pSt P 100 v25 v22 <| K (.tuple #[])) w2 := by
    intro w2 γ2 os hk2 hos
    refine pDraw_fr (fun w' => Fr w2 w') fun w3 hf3 _ _ => ⟨hf3, ?_⟩
    have c1 := hk2.blk b1 fun h => h
    have c2 := hk2.blk b2 fun h => h
    refine pHld1 (fun w' hS => hS.blk c1 fun h => h) lay_38 rfl ?_
    refine pHld1 (fun w' hS => hS.blk c2 fun h => h) lay_3 rfl ?_
    simp
    have hk23 : Keep (fun _ => False) w2 γ2 w3 γ2 := hf3.keep hk2.wf
    refine Queue_New (qC t.toNat) hk23.wf fun w4 γ4 q hk4 hql hqr => ?_
    have hk24 := hk23.trans hk4 fun _ h => h
    have hk04 := hk2.trans hk24 fun _ h => h
    try rw [pKeep_true]
    refine ⟨hk24.ch, ?_⟩
    have hbv : buildV P 100 [(0, sPtr os), (1, ptr q 0)] = some (.agg (cRoom ⟨os, q⟩).toArray) := by
      cases os <;> simp [buildV_app, fillL, fillA, splice, sPtr, cRoom]
    rw [hbv, pVal_some, if_pos (by omega), pVal_some]
    have c5 := hk04.blk h5 fun h => h
    refine pStN (cRoom ⟨os, q⟩) c5 lay_100 (by simp) rfl (by rw [hCells_len h6.len h8.len]; omega) (by cases os <;> rfl) fun w5 hc5 b5 => ?_
    obtain ⟨hk5, hr5⟩ := h.putRoom (t := t.toNat) (q := q) (os := os) (x := hRoom m.a t (l.ten t)) (l := []) (by omega) hk04 hc5 hqr (hos.keep hk24 fun _ _ h => h) (fun xs' rs' hb' _ _ => by rw [← (h5.inj hb').2]; exact b5)
    exact k w5 γ4 hk5 hr5
  refine Store_New (x := x) (who := t) (sC t.toNat) (by unfold sC; omega) hr1.wf hr1.arr h.pages ((hx.mem x hx2).fr hf1) hf hsp (fun w2 hf2 hbad => ?_) fun w2 γ2 sb hk2 hbad hsl hs2 => ?_
  · rw [pKeep_true]
    refine ⟨hf1.trans hf2, ?_⟩
    simp only [extractV_tuple, List.getElem?_toArray, List.getElem?_cons_zero, List.getElem?_cons_succ, pVal_some]
    exact tail w2 γ none ((hf1.trans hf2).keep h.wf) (by unfold hRoom; rw [hx3, if_pos hbad]; trivial)
  · rw [pKeep_true]
    refine ⟨hf1.trans hk2.ch, ?_⟩
    simp only [extractV_tuple, List.getElem?_toArray, List.getElem?_cons_zero, List.getElem?_cons_succ, pVal_some]
    exact tail w2 γ2 (some sb) ((hf1.keep h.wf).trans hk2 fun _ h => h) (by unfold hRoom; rw [hx3, if_neg hbad]; exact hs2.st)
theorem House_Create {t size spare : Int} (h : HouseR w γ A b m) (ok : m.led.ok) (k : ∀ w' γ', Keep hC w γ w' γ' → HouseR w' γ' A b (m.create t size spare).2 → K (i64 (m.create t size spare).1) w') :
    pCall P 17 [ptr b 0, i64 t, i64 size, i64 spare] K w := by
  refine c17 ?_
  unfold G17
  refine pNew_of [ptr b 0] (by simp) fun hb w1 hhb hhbl hf1 b1 => ?_
  refine pNew_of [i64 t] (by simp) fun tb w2 htb htbl hf2 b2 => ?_
  have b1' := hf2.blk b1 fun h => h
  have hk2 : Keep hC w γ w2 γ := (hf1.trans hf2).keep h.wf
  have hr2 := h.fr (hf1.trans hf2)
  refine pLd1 b1' lay_38 rfl ?_
  refine House_Up hr2 ?_
  unfold HouseM.create at k
  by_cases hu : m.up = false
  · rw [if_pos hu] at k
    simp [hu]
    exact k w2 γ hk2 hr2
  have hu' : m.up = true := by simpa using hu
  rw [if_neg hu] at k
  simp [hu']
  have s2 := hk2.size
  refine join1 (fun v6 w' => v6 = i64 (m.led.create t size spare []).1 ∧ Fr w2 w') ?_ ?_
  rotate_left
  · intro J hJ
    refine pDraw_fr (fun w' => Fr w2 w') fun w3 hf3 _ _ => ⟨hf3, ?_⟩
    obtain ⟨xs, rs, h5, h6, h7, h8⟩ := hr2.mem
    refine pHld1 (fun w' hS => hS.blk b1' fun h => h) lay_38 rfl ?_
    simp
    refine pHldN (ledCells m.led.gen m.led.epochs xs) (fun w' hS => hS.blk h5 fun h => h) lay_56 (by rw [hCells_len h6.len h8.len]; omega) (hCells_led h6.len) ?_
    refine pHld1 (fun w' hS => hS.blk b2 fun h => h) lay_3 rfl ?_
    have := led_pair (w := w3) (f := 63) (args := [ledVal m.led xs, i64 t, i64 size, i64 spare, .slice none 0 0]) (S := fun w' => Fr w2 w') (l := (m.led.create t size spare []).2) (e := (m.led.create t size spare []).1) (fun _ e => J e) (fun w' hf => hf3.trans hf)
      (fun w' K' hf hk => Ledger_Create' (h6.fr (hf3.trans hf)) ok (Sl.nil _ cI_len) (by simp) hk)
      fun w' lb ys hf hlb bl hx hy => hJ _ w' ⟨rfl, hf3.trans hf⟩
    exact this
  rintro v6 w3 ⟨rfl, hf3⟩
  have hr3 := hr2.fr hf3
  have hk3 : Keep hC w γ w3 γ := hk2.trans (hf3.keep hr2.wf) fun _ h => h
  by_cases he0 : (m.led.create t size spare []).1 = 0
  rotate_left
  · rw [if_pos he0] at k
    simp [he0]
    exact k w3 γ hk3 hr3
  rw [if_neg (by simp [he0])] at k
  simp [he0]
  obtain ⟨ht0, ht4, hck, _⟩ := create_ok he0
  have c1 := hf3.blk b1' fun h => h
  have c2 := hf3.blk b2 fun h => h
  refine pDraw_fr (fun w' => Fr w3 w') fun w4 hf4 _ _ => ⟨hf4, ?_⟩
  refine pHld1 (fun w' hS => hS.blk c1 fun h => h) lay_38 rfl ?_
  refine pHld1 (fun w' hS => hS.blk c1 fun h => h) lay_38 rfl ?_
  refine House_free (hr3.fr hf4) fun gv w5 hf5 hg5 hgf => ?_
  try rw [pKeep_true]
  refine ⟨hf4.trans hf5, ?_⟩
  refine House_pages (hr3.fr (hf4.trans hf5)) fun w6 hf6 => ?_
  try rw [pKeep_true]
  refine ⟨(hf4.trans hf5).trans hf6, ?_⟩
  refine Rule_Total ?_
  try rw [pKeep_true]
  refine ⟨(hf4.trans hf5).trans hf6, ?_⟩
  have hf36 := (hf4.trans hf5).trans hf6
  have hr6 := hr3.fr hf36
  have hg6 := hg5.fr hf6
  rw [hg6.len (by simp), pVal_some]
  obtain ⟨got, hgot⟩ : ∃ got, got = m.led.free m.a.bl.length m.a.bad := ⟨_, rfl⟩
  rw [← hgot] at hg5 hg6 k ⊢
  obtain ⟨need, hneed⟩ : ∃ need, need = ruleTotal size spare m.a.g.pages := ⟨_, rfl⟩
  have hnb := ruleTotal_le (size := size) (spare := spare) (pages := m.a.g.pages)
  rw [← hneed] at k hnb ⊢
  by_cases hlt : (got.length : Int) < need
  · rw [if_pos hlt] at k
    simp [hlt]
    exact k w6 γ (hk3.trans (hf36.keep hr3.wf) fun _ h => h) hr6
  rw [if_neg hlt] at k
  simp [hlt]
  obtain ⟨n, rfl⟩ : ∃ n : Nat, need = n := ⟨need.toNat, by omega⟩
  have hn : n ≤ got.length := by omega
  obtain ⟨v', hv', hs', hl'⟩ := sl_slice (t := 24) (lo := Option.none) (hi := some (i64 n)) (l := 0) (k := n) hg6 sli_int hn (by omega) (fun c hc => boundV_nat _ _ _ _ (by omega)) rfl
  rw [hv', pVal_some]
  rw [List.drop_zero] at hs'
  have d1 := hf36.blk c1 fun h => h
  have d2 := hf36.blk c2 fun h => h
  refine pLd1 d1 lay_38 rfl ?_
  obtain ⟨g, hg⟩ : ∃ g, g = got.take n := ⟨_, rfl⟩
  rw [Int.toNat_natCast] at k
  rw [← hg] at hs' k
  have s3 := hf3.size; have s36 := hf36.size
  have hgf' : ∀ q, live v' = some q → w3.heap.size ≤ q ∧ γ q = 0 := fun q hq => by
    rcases hl' with hl' | hl'
    · rw [hl'] at hq
      have := hgf q hq
      have := hf4.size
      exact ⟨by omega, h.wf q (by omega)⟩
    · rw [hl'] at hq; cases hq
  have hglen : g.length ≤ 100 := by rw [hg, List.length_take]; omega
  refine House_blank hr6 hs' (fun q hq => (hgf' q hq).2) (by omega) fun w7 hk7 hr7 => ?_
  have hk6 : Keep hC w γ w6 γ := hk3.trans (hf36.keep hr3.wf) fun _ h => h
  have hk67 : Keep hC w6 γ w7 γ := hk7.mono fun x hx => by unfold arrC at hx; unfold hC; omega
  have hk07 := hk6.trans hk67 fun _ h => h
  have z1 : γ hb = 0 := h.wf hb (by omega)
  have z2 : γ tb = 0 := h.wf tb (by have := hf1.size; omega)
  have e1 := hk7.blk d1 (by rw [z1]; unfold arrC; omega)
  have e2 := hk7.blk d2 (by rw [z2]; unfold arrC; omega)
  by_cases hbl : (hBlank g m.a).1 = 0
  rotate_left
  · rw [if_pos hbl] at k
    simp [hbl]
    refine pLd1 e1 lay_38 rfl ?_
    refine House_settle hr7 fun w8 hk8 hr8 => ?_
    exact k w8 γ (hk07.trans hk8 fun _ h => h) hr8
  rw [if_neg (by simp [hbl])] at k
  simp [hbl]
  have hg7 : Ints w7 v' g := hs'.ch hk7.ch fun q hq => by rw [(hgf' q hq).2]; unfold arrC; omega
  obtain ⟨m1, hm1⟩ : ∃ m1, m1 = ({ m with a := (hBlank g m.a).2 } : HouseM) := ⟨_, rfl⟩
  have hled1 : m1.led = m.led := by rw [hm1]
  rw [← hm1] at hr7 k
  obtain ⟨r, hr⟩ : ∃ r, r = m.led.create t size spare g := ⟨_, rfl⟩
  rw [← hr] at k
  refine join2 (fun v14 v15 w' => ∃ lb ys, v14 = ptr lb 0 ∧ v15 = i64 r.1 ∧ Fr w7 w' ∧ w7.heap.size ≤ lb ∧ Blk w' lb 56 (ledCells r.2.gen r.2.epochs ys) ∧ LedX w' ys r.2 ∧ (∀ x ∈ ys, ∀ q, live x.2 = some q → w7.heap.size ≤ q ∧ q ≠ lb)) ?_ ?_
  rotate_left
  · intro J hJ
    refine pDraw_fr (fun w' => Fr w7 w') fun w8 hf8 _ _ => ⟨hf8, ?_⟩
    obtain ⟨xs, rs, h5, h6, h7, h8⟩ := hr7.mem
    rw [hled1] at h5 h6
    refine pHld1 (fun w' hS => hS.blk e1 fun h => h) lay_38 rfl ?_
    simp
    refine pHldN (ledCells m.led.gen m.led.epochs xs) (fun w' hS => hS.blk h5 fun h => h) lay_56 (by rw [hCells_len h6.len h8.len]; omega) (hCells_led h6.len) ?_
    refine pHld1 (fun w' hS => hS.blk e2 fun h => h) lay_3 rfl ?_
    have := led_pair (w := w8) (f := 63) (args := [ledVal m.led xs, i64 t, i64 size, i64 spare, v']) (S := fun w' => Fr w7 w') (l := r.2) (e := r.1) J (fun w' hf => hf8.trans hf)
      (fun w' K' hf hk => Ledger_Create' (h6.fr (hf8.trans hf)) ok (hg7.fr (hf8.trans hf)) (by omega) (by rw [← hr]; exact hk))
      fun w' lb ys hf hlb bl hx hy => hJ _ _ w' ⟨lb, ys, rfl, rfl, hf8.trans hf, by have := hf8.size; omega, bl, hx, fun x hx q hq => by have := hy x hx q hq; have := hf8.size; constructor <;> omega⟩
    exact this
  rintro v14 v15 w8 ⟨lb, ys, rfl, rfl, hf8, hlb, bl, hx8, hy8⟩
  have s7 := hk07.size
  have s78 := hf8.size
  refine pLd1 (hf8.blk e1 fun h => h) lay_38 rfl ?_
  refine pLdN (ledCells r.2.gen r.2.epochs ys) bl lay_56 (by rw [ledCells_len hx8.len]; omega) (by rw [List.drop_zero, List.take_of_length_le (by rw [ledCells_len hx8.len]; omega)]) ?_
  have hk08 : Keep hC w γ w8 γ := hk07.trans (hf8.keep hr7.wf) fun _ h => h
  refine House_keep (fun m' => m'.putRoom t.toNat (hRoom m'.a t (r.2.ten t))) hk08 (hr7.fr hf8) hx8 (fun x hx q hq => ⟨by have := hy8 x hx q hq; omega, h.wf q (by have := hy8 x hx q hq; omega)⟩) (fun he w9 γ9 K' hk9 hch9 hcol9 hr9 hx9 hy9 kk => ?_) fun w' γ' hk' hr' => ?_
  · refine pCallV_of ?_
    have g1 : Blk w9 hb 38 [ptr b 0] := hch9.blk (hf8.blk e1 fun h => h) (by rw [z1]; unfold hC; omega)
    have g2 : Blk w9 tb 3 [i64 t] := hch9.blk (hf8.blk e2 fun h => h) (by rw [z2]; unfold hC; omega)
    have g3 : Blk w9 lb 56 (ledCells r.2.gen r.2.epochs ys) := hch9.blk bl (by rw [h.wf lb (by omega)]; unfold hC; omega)
    refine Create_then (K := K') hr9 ⟨ht0, ht4⟩ g1 g2 g3 hx9 ?_ fun w10 γ10 hk10 hr10 => kk _ w10 γ10 hk10 hr10
    obtain ⟨_, _, hck', hres⟩ := create_ok (l := m.led) (t := t) (size := size) (spare := spare) (got := g) (by rw [← hr]; exact he)
    rw [← hr] at hres
    have hl4 : m.led.tens.length = 4 := by
      obtain ⟨xs, rs, h5, h6, _⟩ := h.mem
      rw [← h6.tens, List.length_map, h6.len]
    unfold ruleCheck at hck'
    split at hck'
    · cases hck'
    · rw [hres]
      unfold LedM.ten
      simp only
      rw [List.getElem?_set_self (by omega)]
      simp only [Option.getD_some]
      omega
  · exact k w' γ' hk' hr'
end
end Go.Al

namespace Go.Al
open Go Go.Proofs
structure StatM where
  size : Int
  spare : Int
  blocks : Int
  bad : Int
  faults : Int
  ops : Int
  only : Bool
  free : Int
  waiting : Int
def StatM.cells (s : StatM) : List Value := [i64 s.size, i64 s.spare, i64 s.blocks, i64 s.bad, i64 s.faults, i64 s.ops, .bool s.only, i64 s.free, i64 s.waiting]
def StatM.zero : StatM := ⟨0, 0, 0, 0, 0, 0, false, 0, 0⟩
def StatM.val (s : StatM) : Value := .agg s.cells.toArray
def hStat (m : HouseM) (t : Int) (s : StoreM) : StatM :=
  let x := m.led.ten t
  ⟨x.size, x.spare, x.blocks.length, sBadN m.a s, m.a.dr.faultsOf t, m.a.dr.opsOf t, s.only, (sFree m.a s).length, s.wait.length + (m.queue t.toNat).wait.length⟩
theorem stat_build : buildV P 43 [] = some StatM.zero.val := by kernel_rfl
theorem zero_stat : zeroP P 43 = some StatM.zero.val := by kernel_rfl
section
variable {w : World} {γ : Col} {A : ArrA} {b : Nat} {m : HouseM} {K : Value → World → Prop}
theorem House_Stat {t : Int} (h : HouseR w γ A b m) (k0 : ∀ w', Fr w w' → m.there t ≠ 0 → K (.tuple #[StatM.zero.val, i64 (m.there t)]) w') (hs : m.there t = 0 → ∃ s, m.store t.toNat = some s)
    (k : ∀ w' s, Fr w w' → m.there t = 0 → m.store t.toNat = some s → K (.tuple #[(hStat m t s).val, i64 0]) w') : pCall P 15 [ptr b 0, i64 t] K w := by
  refine c15 ?_
  unfold G15
  refine pAlloc_of StatM.zero.cells zero_stat rfl fun rb w1 hrb hrbl hf1 b1 => ?_
  have hr1 := h.fr hf1
  refine House_there hr1 ?_
  by_cases g : m.there t = 0
  rotate_left
  · simp [g]
    rw [stat_build, pVal_some]
    refine pStN StatM.zero.cells b1 lay_43 rfl rfl (by simp [StatM.cells]) rfl fun w2 hc2 b2 => ?_
    refine pResN b2 lay_43 rfl ?_
    exact k0 w2 (hf1.trans' (by omega) hc2) g
  obtain ⟨t0, t4, _, _⟩ := HouseM.there_in g
  obtain ⟨s, hs⟩ := hs g
  obtain ⟨xs, rs, r, h5, h6, h7, h8, h9, h10, h11, h12, h13⟩ := hr1.room (t := t.toNat) (by omega)
  obtain ⟨x, hx1, hx2, hx3⟩ := HouseR.ten h6 (t := t) (by omega) (by omega)
  simp [g]
  refine pDraw_fr (fun w' => Fr w1 w') fun w2 hf2 _ _ => ⟨hf2, ?_⟩
  rw [if_pos (by omega), pVal_some]
  refine pHldN (cTen x) (fun w' hS => hS.blk h5 fun h => h) lay_53 ?_ ?_ ?_
  · have := (List.getElem?_eq_some_iff.1 h8).1; omega
  · exact hCells_entry hx1
  rw [if_pos (by omega), pVal_some]
  simp
  refine pHld1 (fun w' hS => hS.blk h5 fun h => h) lay_97 h7 ?_
  refine pAlloc_of (cTen (TenM.zero, .slice none 0 0)) zero_53 rfl fun xb w3 hxb hxbl hf3 b3 => ?_
  rw [pKeep_true]
  refine ⟨hf2.trans hf3, ?_⟩
  refine pStN (cTen x) b3 lay_53 rfl rfl (by simp [cTen]) ?_ fun w4 hc4 b4 => ?_
  · simp only [cTen, List.all_cons, List.all_nil, Bool.and_true, Bool.and_eq_true]
    exact ⟨rfl, rfl, rfl, rfl, (h6.mem x hx2).one⟩
  have b4 : Blk w4 xb 53 (cTen x) := b4
  have hf24 : Fr w2 w4 := Ch.new hf3 hxb hc4
  have hf14 := hf2.trans hf24
  rw [pKeep_true]
  refine ⟨hf14, ?_⟩
  have hr4 := hr1.fr hf14
  rw [hs] at h10
  cases hrs : r.s with
  | none => rw [hrs] at h10; exact h10.elim
  | some bs =>
  obtain ⟨hsr, _⟩ := h12 bs s hrs hs
  have hs4 := hsr.fr hf14
  have h54 := hf14.blk h5 fun h => h
  simp
  refine pDraw_fr (fun w' => Fr w4 w') fun w5 hf5 _ _ => ⟨hf5, ?_⟩
  refine pHld1 (fun w' hS => hS.blk b4 fun h => h) lay_3 rfl ?_
  refine pHld1 (fun w' hS => hS.blk b4 fun h => h) lay_3 rfl ?_
  refine pHld1 (fun w' hS => hS.blk b4 fun h => h) lay_24 rfl ?_
  rw [(h6.mem x hx2).len (by simp), pVal_some]
  refine pHld1 (fun w' hS => hS.blk h54 fun h => h) lay_90 rfl ?_
  refine pHld1 (fun w' hS => hS.blk h54 fun h => h) lay_90 rfl ?_
  refine pHld1 (fun w' hS => hS.blk h54 fun h => h) lay_98 h8 ?_
  refine Store_Bad (hs4.fr hf5) fun w6 hf6 => ?_
  rw [pKeep_true]
  have hf46 := hf5.trans hf6
  refine ⟨hf46, ?_⟩
  refine Draws_Faults (hr4.fr hf46).arr.draws ?_
  rw [pKeep_true]
  refine ⟨hf46, ?_⟩
  refine Draws_Ops (hr4.fr hf46).arr.draws ?_
  rw [pKeep_true]
  refine ⟨hf46, ?_⟩
  refine Store_ReadOnly (hs4.fr hf46) ?_
  rw [pKeep_true]
  refine ⟨hf46, ?_⟩
  refine Store_Free (hs4.fr hf46) fun w7 fv hf7 hfv _ => ?_
  rw [pKeep_true]
  have hf47 := hf46.trans hf7
  refine ⟨hf47, ?_⟩
  rw [hfv.len (by simp), pVal_some]
  refine Store_Waiting (hs4.fr hf47) ?_
  rw [pKeep_true]
  refine ⟨hf47, ?_⟩
  have hf17 := hf14.trans hf47
  refine Queue_Len (h9.keep (C := fun _ => False) (hf17.keep hr1.wf) (fun h => h) (fun h => h) fun h => h) ?_
  rw [pKeep_true]
  refine ⟨hf47, ?_⟩
  have hw8 := h9.2.1
  obtain ⟨bv, tb, wb, _, _, _, _, hbuf⟩ := hsr.st.mem
  have hb4 := hbuf.2.1
  simp
  rw [wrap_in (by omega) (by omega)]
  have b5 := hf17.blk b1 fun h => h
  have hst : (hStat m t s).cells = [i64 x.1.size, i64 x.1.spare, i64 x.1.blocks.length, i64 (sBadN m.a s), i64 (m.a.dr.faultsOf t), i64 (m.a.dr.opsOf t), .bool s.only, i64 (sFree m.a s).length, i64 (s.wait.length + (m.queue t.toNat).wait.length)] := by
    unfold hStat StatM.cells; rw [hx3]
  have hbv : ∀ a b c d e f g h i, buildV P 43 [(0, i64 a), (1, i64 b), (2, i64 c), (3, i64 d), (4, i64 e), (5, i64 f), (6, .bool g), (7, i64 h), (8, i64 i)] = some (.agg #[i64 a, i64 b, i64 c, i64 d, i64 e, i64 f, .bool g, i64 h, i64 i]) := by
    intro a b c d e f g h i
    simp [buildV_app, fillL, fillA, splice]
  rw [hbv, pVal_some]
  refine pStN (hStat m t s).cells b5 lay_43 (by rw [hst]; rfl) (by rw [hst]; rfl) (by simp [StatM.zero, StatM.cells]) (by rw [hst]; rfl) fun w9 hc9 b9 => ?_
  refine pResN b9 lay_43 rfl ?_
  exact k w9 s ((hf1.trans hf17).trans' (by omega) hc9) g hs
theorem House_there_nil {t : Int} (k : K (i64 12) w) : pCall P 54 [.pointer none, i64 t] K w := by
  refine c54 ?_
  unfold G54
  refine House_Up_nil ?_
  simp
  exact k
theorem House_Stat_nil {t : Int} (k : ∀ w', Fr w w' → K (.tuple #[StatM.zero.val, i64 12]) w') : pCall P 15 [.pointer none, i64 t] K w := by
  refine c15 ?_
  unfold G15
  refine pAlloc_of StatM.zero.cells zero_stat rfl fun rb w1 hrb hrbl hf1 b1 => ?_
  refine House_there_nil ?_
  simp
  rw [stat_build, pVal_some]
  refine pStN StatM.zero.cells b1 lay_43 rfl rfl (by simp [StatM.cells]) rfl fun w2 hc2 b2 => ?_
  refine pResN b2 lay_43 rfl ?_
  exact k w2 (hf1.trans' (by omega) hc2)
theorem House_Peek_nil {t p : Int} (k : K (.tuple #[sV [], i64 12]) w) : pCall P 16 [.pointer none, i64 t, i64 p] K w := by
  refine c16 ?_
  unfold G16
  refine House_there_nil ?_
  simp
  exact k
theorem House_Cut_nil (k : K (.tuple #[]) w) : pCall P 37 [.pointer none] K w := by
  refine c37 ?_
  unfold G37
  rw [binV_ptr_neq (by simp), pVal_some]
  simp
  exact k
theorem House_Budget_nil {n : Int} (k : K (.tuple #[]) w) : pCall P 38 [.pointer none, i64 n] K w := by
  refine c38 ?_
  unfold G38
  refine House_Up_nil ?_
  simp
  exact k
theorem House_Create_nil {t size spare : Int} (k : ∀ w', Fr w w' → K (i64 12) w') : pCall P 17 [.pointer none, i64 t, i64 size, i64 spare] K w := by
  refine c17 ?_
  unfold G17
  refine pNew_of [.pointer none] (by simp) fun hb w1 hhb hhbl hf1 b1 => ?_
  refine pNew_of [i64 t] (by simp) fun tb w2 htb htbl hf2 b2 => ?_
  refine pLd1 (hf2.blk b1 fun h => h) lay_38 rfl ?_
  refine House_Up_nil ?_
  simp
  exact k w2 (hf1.trans hf2)
theorem House_Destroy_nil {t : Int} (k : ∀ w', Fr w w' → K (i64 12) w') : pCall P 18 [.pointer none, i64 t] K w := by
  refine c18 ?_
  unfold G18
  refine pNew_of [.pointer none] (by simp) fun hb w1 hhb hhbl hf1 b1 => ?_
  refine pNew_of [i64 t] (by simp) fun tb w2 htb htbl hf2 b2 => ?_
  refine pLd1 (hf2.blk b1 fun h => h) lay_38 rfl ?_
  refine House_Up_nil ?_
  simp
  exact k w2 (hf1.trans hf2)
theorem House_Resize_nil {t size : Int} (k : ∀ w', Fr w w' → K (i64 12) w') : pCall P 19 [.pointer none, i64 t, i64 size] K w := by
  refine c19 ?_
  unfold G19
  refine pNew_of [i64 size] (by simp) fun hb w1 hhb hhbl hf1 b1 => ?_
  refine House_Up_nil ?_
  simp
  exact k w1 hf1
theorem House_Submit_nil {t : Int} {x : CmdM} (k : ∀ w', Fr w w' → K (i64 12) w') : pCall P 21 [.pointer none, i64 t, x.val] K w := by
  refine c21 ?_
  unfold G21
  refine pNew_of x.cells rfl fun xb w1 hxb hxbl hf1 h1 => ?_
  refine House_there_nil ?_
  simp
  exact k w1 hf1
theorem House_Mount_nil {n : Int} (k : K (i64 12) w) : pCall P 33 [.pointer none, i64 n] K w := by
  refine c33 ?_
  unfold G33
  rw [binV_ptr_eql (by simp), pVal_some]
  simp
  exact k
theorem House_Slot_nil (k : K (.bool false) w) : pCall P 22 [.pointer none] K w := by
  refine c22 ?_
  unfold G22
  refine House_Up_nil ?_
  simp
  exact k
theorem House_Slots_nil (k : K (i64 0) w) : pCall P 39 [.pointer none] K w := by
  refine c39 ?_
  unfold G39
  rw [binV_ptr_eql (by simp), pVal_some]
  simp
  exact k
theorem House_Ops_nil (k : K (i64 0) w) : pCall P 40 [.pointer none] K w := by
  refine c40 ?_
  unfold G40
  rw [binV_ptr_eql (by simp), pVal_some]
  simp
  exact k
theorem House_Array_nil (k : K (.pointer none) w) : pCall P 24 [.pointer none] K w := by
  refine c24 ?_
  unfold G24
  rw [binV_ptr_eql (by simp), pVal_some]
  simp
  exact k
theorem House_Done_nil {t : Int} (k : K (.slice none 0 0) w) : pCall P 41 [.pointer none, i64 t] K w := by
  refine c41 ?_
  unfold G41
  refine pJoin0_in ?_
  rw [binV_ptr_eql (by simp), pVal_some]
  simp
  exact k
theorem House_Ledger_nil (k : ∀ w', Fr w w' → K ledZ w') : pCall P 23 [.pointer none] K w := by
  refine c23 ?_
  unfold G23
  refine pAlloc_of (ledCells 0 0 ledZs) zero_56 rfl fun rb w1 hrb hrbl hf1 h1 => ?_
  rw [binV_ptr_eql (by simp), pVal_some]
  simp
  exact led_err h1 rfl fun w2 hc2 => k w2 (hf1.trans' (by omega) hc2)
end
end Go.Al

namespace Go.Al
open Go Go.Proofs
def sInvB (a : ArrM) (s : StoreM) : Bool :=
  decide (s.ent.blocks.length ≤ 500) && decide (-1 ≤ s.front ∧ s.front < s.ent.blocks.length) && decide (0 ≤ s.ent.spare ∧ s.ent.spare ≤ 1000) && decide s.ent.blocks.Nodup && decide (0 ≤ sSpares a s) && (decide (s.front = -1) || !sBad a s s.front)
theorem sInvB_out {a : ArrM} {s : StoreM} (h : sInvB a s = true) : SInv a s := by
  unfold sInvB at h
  simp only [Bool.and_eq_true, decide_eq_true_eq, Bool.or_eq_true, Bool.not_eq_true'] at h
  obtain ⟨⟨⟨⟨⟨h1, h2⟩, h3⟩, h4⟩, h5⟩, h6⟩ := h
  exact ⟨⟨h1, h2, h3⟩, h4, h5, h6⟩
def hInvB (m : HouseM) : Bool :=
  decide (0 ≤ m.led.gen ∧ m.led.gen ≤ 2147483647) && decide (0 ≤ m.led.epochs ∧ m.led.epochs ≤ 2147483647) && decide (m.led.check m.a.bl.length m.a.g.pages = 0) &&
  (List.range 4).all (fun t => if (m.led.ten t).there then (match m.store t with | some s => decide (s.ent = m.led.ten t) && decide (s.who = t) && sInvB m.a s | none => false) else (m.store t).isNone) &&
  (m.up || decide (m.led = LedM.zero)) && decide (0 ≤ m.slots ∧ m.slots ≤ 100000000) && m.rooms.all fun r => decide ((r.queue.done.length : Int) ≤ m.slots)
theorem hInvB_out {m : HouseM} (h : hInvB m = true) : HInv m := by
  unfold hInvB at h
  simp only [Bool.and_eq_true, decide_eq_true_eq, Bool.or_eq_true, List.all_eq_true] at h
  obtain ⟨⟨⟨⟨⟨⟨h1, h2⟩, h3⟩, h4⟩, h5⟩, h6⟩, h7⟩ := h
  refine ⟨⟨h1, h2⟩, h3, fun t ht hth => ?_, fun t ht hth => ?_, fun hu => ?_, h6, fun t => ?_⟩
  · have := h4 t (List.mem_range.2 ht)
    rw [if_pos hth] at this
    cases hs : m.store t with
    | none => rw [hs] at this; cases this
    | some s =>
      rw [hs] at this
      simp only [Bool.and_eq_true, decide_eq_true_eq] at this
      exact ⟨s, rfl, this.1.1, this.1.2, sInvB_out this.2⟩
  · have := h4 t (List.mem_range.2 ht)
    rw [if_neg (by simp [hth])] at this
    simpa using this
  · rcases h5 with h5 | h5
    · rw [hu] at h5; cases h5
    · exact h5
  · unfold HouseM.queue HouseM.room
    cases hr : m.rooms[t]? with
    | none => simp; omega
    | some r => exact h7 r (List.mem_of_getElem? hr)
def fx0 : Int × HouseM := hNew ⟨2, 1, 8, 4⟩ [[], [], [], []] []
def fx1 : Int × HouseM := fx0.2.create 1 5 1
def fx2 : HouseM := fx1.2.setQueue 1 ((fx1.2.queue 1).submit ⟨2, 4, [120]⟩).2
def fx3 : HouseM := fx2.slot.2
def fx4 : HouseM := fx3.slot.2
def fx5 : HouseM := fx4.slot.2
def fx6 : HouseM := fx5.slot.2
def fxs : StoreM := (fx6.store 1).getD ⟨0, TenM.zero, ⟨0, [], [], []⟩, [], 0, 0, false⟩
theorem fx_0 : fx0.1 = 0 ∧ fx0.2.led.ok := ⟨by decide +kernel, ⟨by decide +kernel, by decide +kernel⟩⟩
theorem fx_1 : fx1.1 = 0 ∧ fx1.2.there 1 = 0 := by decide +kernel
theorem fx_2 : ((fx1.2.queue 1).submit ⟨2, 4, [120]⟩).1 = 0 ∧ hInvB fx2 = true := by decide +kernel
theorem fx_3 : hInvB fx3 = true := by decide +kernel
theorem fx_4 : hInvB fx4 = true := by decide +kernel
theorem fx_5 : hInvB fx5 = true := by decide +kernel
theorem fx_6 : hInvB fx6 = true := by decide +kernel
def fxAt : Nat → HouseM
  | 0 => fx2
  | n + 1 => (fxAt n).slot.2
theorem fxAt_4 : fxAt 4 = fx6 := rfl
theorem fxAt_inv : ∀ i, i < 4 → HInv (fxAt i)
  | 0, _ => hInvB_out fx_2.2
  | 1, _ => hInvB_out fx_3
  | 2, _ => hInvB_out fx_4
  | 3, _ => hInvB_out fx_5
  | n + 4, h => by omega
theorem fx_some : (fx6.store 1).isSome = true := by decide +kernel
theorem fx_store : fx6.store 1 = some fxs := by
  have h := fx_some
  unfold fxs
  cases hh : fx6.store 1 with
  | none => rw [hh] at h; cases h
  | some s => rfl
theorem fx_done : (fx6.queue 1).done = [⟨1, 0, []⟩] ∧ fx6.there 1 = 0 := ⟨by decide +kernel, by decide +kernel⟩
theorem fx_few : ∀ t, (fx6.queue t).done.length ≤ 1000000000 := fun t => by
  have h := hInvB_out fx_6
  have h1 := h.done t
  have h2 := h.slots
  omega
theorem fx_read : (sRead fx6.a fxs 4).e = 0 ∧ (sRead fx6.a fxs 4).data = [120] ∧ (hStat fx6 1 fxs).blocks = 4 ∧ (hStat fx6 1 fxs).waiting = 1 := by decide +kernel
theorem fx_last : (fx6.create 1 5 1).1 = 7 ∧ (fx6.create 1 5 1).2.slots = 4 ∧ (fx6.create 1 5 1).2.up = true := by decide +kernel
theorem fields_done : P.fieldsOf 88 = #[{ name := "Slot", type := 3, offset := 0, embedded := false, tag := "", pkgPath := "", byteOffset := 0 }, { name := "Status", type := 35, offset := 1, embedded := false, tag := "", pkgPath := "", byteOffset := 8 }, { name := "Data", type := 9, offset := 2, embedded := false, tag := "", pkgPath := "", byteOffset := 16 }] := by kernel_rfl
theorem under_done : P.underlying 88 = some (.struct (P.fieldsOf 88)) := by kernel_rfl
theorem stood_done : P.stoodInHeld 88 = false := by kernel_rfl
theorem guard_done : P.eqGuardType P.depth 88 = false := by kernel_rfl
theorem under_int : P.underlying 3 = some (.int .i64) := by kernel_rfl
theorem under_errno : P.underlying 35 = some (.int .i64) := by kernel_rfl
theorem under_string : P.underlying 9 = some .string := by kernel_rfl
theorem pEqDone {x y : DoneM} {K : Value → World → Prop} {w : World} (k : K (.bool (decide (x = y))) w) : pRun P (binS .eql 88 false x.val y.val) K w := by
  unfold pRun okThen
  have e : (binS .eql 88 false x.val y.val).run P w = .ok (.bool (decide (x = y))) w := by
    unfold binS eqG DoneM.val
    rw [Sem.run_bind, run_eqGuard_agg w _ _ _ _ _ _ guard_done]
    simp only [Result.andThen_ok]
    rw [run_eql_struct, run_equalIn_agg w 9999 _ _ _ under_done stood_done, fields_done]
    have pa : ∀ (z : DoneM), (part 3 z.cells.toArray 0).run P = fun w => .ok (i64 z.slot) w := fun z => by
      funext w; exact run_part lay_3 rfl w
    have pb : ∀ (z : DoneM), (part 35 z.cells.toArray 1).run P = fun w => .ok (i64 z.status) w := fun z => by
      funext w; exact run_part lay_35 rfl w
    have pc : ∀ (z : DoneM), (part 9 z.cells.toArray 2).run P = fun w => .ok (sV z.data) w := fun z => by
      funext w; exact run_part lay_9 rfl w
    simp only [Op.eqFields, Sem.run_bind, pa, pb, pc, Result.andThen_ok, Sem.run_ite, ne_eq, reduceCtorEq, not_false_eq_true, if_true]
    have n1 : ¬ ("Slot" : String) = "_" := by decide
    have n2 : ¬ ("Status" : String) = "_" := by decide
    have n3 : ¬ ("Data" : String) = "_" := by decide
    have i1 : ∀ (a b : Int) (w : World), (Op.equalIn 9999 3 (i64 a) (i64 b)).run P w = .ok (a == b) w := fun a b w => run_equalIn_int w 9998 _ _ _ _ _ under_int
    have i2 : ∀ (a b : Int) (w : World), (Op.equalIn 9999 35 (i64 a) (i64 b)).run P w = .ok (a == b) w := fun a b w => run_equalIn_int w 9998 _ _ _ _ _ under_errno
    have i3 : ∀ (a b : List UInt8) (w : World), (Op.equalIn 9999 9 (sV a) (sV b)).run P w = .ok (a == b) w := fun a b w => by
      rw [run_equalIn_string w 9998 _ _ _ under_string, ByteArray.toList_eq, ByteArray.toList_eq]
    simp only [n1, n2, n3, not_false_eq_true, if_true, i1, i2, i3, Result.andThen_ok]
    obtain ⟨x1, x2, x3⟩ := x
    obtain ⟨y1, y2, y3⟩ := y
    by_cases h1 : x1 = y1
    · by_cases h2 : x2 = y2
      · by_cases h3 : x3 = y3
        · simp [h1, h2, h3]
        · simp [h1, h2, h3]
      · simp [h1, h2]
    · simp [h1]
  rw [e]
  exact k
def nil4 : List Value := [.slice none 0 0, .slice none 0 0, .slice none 0 0, .slice none 0 0]
section
variable {w : World} {K : Value → World → Prop}
theorem Law21_small {n p : Int} (k : ∀ w', Fr w w' → K (.agg ((⟨2, 1, n, p⟩ : Geo).cells ++ nil4 ++ [Value.slice none 0 0]).toArray) w') : pCall P 48 [i64 n, i64 p] K w := by
  refine c48 ?_
  unfold G48
  refine pAlloc_of ((⟨0, 0, 0, 0⟩ : Geo).cells ++ nil4 ++ [Value.slice none 0 0]) zero_27 (by rfl) fun rb w1 hrb hrbl hf1 b1 => ?_
  simp [buildV_app, fillL, fillA, splice]
  refine pStN ((⟨2, 1, n, p⟩ : Geo).cells ++ nil4 ++ [Value.slice none 0 0]) b1 lay_27 (by rfl) rfl (by simp [Geo.cells, nil4]) rfl fun w2 hc2 b2 => ?_
  refine pResN b2 lay_27 rfl ?_
  exact k w2 (hf1.trans' (by omega) hc2)
theorem Law21_fixed (k : ∀ w', Fr w w' → K (.bool true) w') : pCall P 8 [] K w := by
  refine c8 ?_
  unfold G8
  refine Law21_small fun w1 hf1 => ?_
  refine House_New (γ := fun _ => 0) (g := ⟨2, 1, 8, 4⟩) (fs := [[], [], [], []]) (marked := []) (Wf.zero w1) ?_ (Sl.nil _ cI_len) (fun x h => by cases h) (by simp) (fun w2 _ he => absurd fx_0.1 he) fun w2 γ2 b A hk2 he hbl hr2 => ?_
  · refine ⟨rfl, rfl, fun i v l h1 h2 => ?_⟩
    have h1 : v = .slice none 0 0 := List.eq_of_mem_replicate (n := 4) (List.mem_of_getElem? h1)
    have h2 : l = [] := List.eq_of_mem_replicate (n := 4) (List.mem_of_getElem? h2)
    subst h1; subst h2
    exact Sl.nil _ cI_len
  have hr2 : HouseR w2 γ2 A b fx0.2 := hr2
  simp only [extractV_tuple, List.getElem?_toArray, List.getElem?_cons_zero, List.getElem?_cons_succ, pVal_some]
  refine House_Create hr2 fx_0.2 fun w3 γ3 hk3 hr3 => ?_
  have hr3 : HouseR w3 γ3 A b fx1.2 := hr3
  have e1 : (fx0.2.create 1 5 1).1 = 0 := fx_1.1
  rw [e1]
  have hbv : buildV P 30 [(0, i64 2), (1, i64 4), (2, .string { data := #[120] })] = some (CmdM.val ⟨2, 4, [120]⟩) := by simp [buildV_app, fillL, fillA, splice, CmdM.val, CmdM.cells]
  rw [hbv, pVal_some]
  refine House_Submit hr3 (fun _ _ h => absurd fx_1.2 h) fun w4 γ4 hk4 _ hr4 => ?_
  have hr4 : HouseR w4 γ4 A b fx2 := hr4
  have e2 : ((fx1.2.queue (1 : Int).toNat).submit ⟨2, 4, [120]⟩).1 = 0 := fx_2.1
  rw [e2]
  have hk04 : Keep hC w (fun _ => 0) w4 γ4 := (((hf1.keep (Wf.zero w)).trans (hk2.mono (C' := hC) fun _ h => h.elim) fun _ h => h).trans hk3 fun _ h => h).trans hk4 fun _ h => h
  refine loop1_up 4 (fun i w' => ∃ γ', Keep hC w (fun _ => 0) w' γ' ∧ HouseR w' γ' A b (fxAt i)) ⟨γ4, hk04, hr4⟩ ?_
  rintro i w5 ag hag hi ⟨γ5, hk5, hr5⟩
  by_cases hi4 : i < 4
  · have hi' : (i : Int) < 4 := by omega
    simp [hi']
    refine House_Slot hr5 (fxAt_inv i hi4) fun w6 γ6 hk6 hr6 => ?_
    rw [wrap_succ (by omega)]
    exact hag (i + 1) w6 (by omega) (by omega) ⟨γ6, hk5.trans hk6 fun _ h => h, hr6⟩
  · have hi4' : i = 4 := by omega
    subst hi4'
    simp
    rw [fxAt_4] at hr5
    have f1 := fx_done
    have f2 := fx_store
    have f3 := fx_read
    have f4 := fx_last
    have f5 := fx_few
    have f6 := (hInvB_out fx_6).led
    generalize fx6 = m6 at *
    generalize fxs = s6 at *
    refine House_Done hr5 f5 (fun h => by omega) fun v w6 _ _ hv6 hf6 hfr6 => ?_
    have e3 : (m6.queue (1 : Int).toNat).done = [⟨1, 0, []⟩] := f1.1
    rw [e3] at hv6
    have hr6 := hr5.fr hf6
    have ex : ∃ s, m6.store (1 : Int).toNat = some s := ⟨s6, f2⟩
    refine House_Peek hr6 (fun h => absurd f1.2 h) (fun _ => ex) fun w7 s hf7 _ hs => ?_
    have hs' : s = s6 := Option.some.inj (hs.symm.trans f2)
    subst hs'
    rw [f3.1, f3.2.1]
    simp only [extractV_tuple, List.getElem?_toArray, List.getElem?_cons_zero, List.getElem?_cons_succ, pVal_some]
    have hr7 := hr6.fr hf7
    refine House_Stat hr7 (fun _ _ h => absurd f1.2 h) (fun _ => ex) fun w8 s' hf8 _ hs => ?_
    have hs' : s' = s := Option.some.inj (hs.symm.trans f2)
    subst hs'
    simp only [extractV_tuple, List.getElem?_toArray, List.getElem?_cons_zero, List.getElem?_cons_succ, pVal_some]
    have hr8 := hr7.fr hf8
    refine pAlloc_of StatM.zero.cells zero_stat rfl fun sb w9 hsb hsbl hf9 b9 => ?_
    refine pStN (hStat m6 1 s').cells b9 lay_43 rfl rfl (by simp [StatM.zero, StatM.cells]) rfl fun w10 hc10 b10 => ?_
    have b10 : Blk w10 sb 43 (hStat m6 1 s').cells := b10
    have hf810 : Fr w8 w10 := Ch.new hf9 hsb hc10
    have hv10 := ((hv6.fr hf7).fr hf8).fr hf810
    have hr10 := hr8.fr hf810
    simp
    rw [hv10.len (by simp), pVal_some]
    obtain ⟨eb, eo, eT, el, _, heb, hidx, heo, hec, _⟩ := Sl.at hv10 (i := 0) (x := ⟨1, 0, []⟩) rfl (by omega)
    have hidx' := hidx 74 .i64 idx_74
    simp only [Int.natCast_zero] at hidx'
    simp
    rw [hidx', pVal_some]
    refine pLdN (DoneM.cells ⟨1, 0, []⟩) heb lay_88 heo hec ?_
    simp [buildV_app, fillL, fillA, splice]
    have hx : (Value.agg #[Value.int IntKind.i64 1, Value.int IntKind.i64 0, Value.string { data := #[] }]) = DoneM.val ⟨1, 0, []⟩ := rfl
    rw [hx]
    refine pEqDone ?_
    simp
    have hs : binV P .eql 9 (sV [120]) (Value.string { data := #[120] }) = some (.bool true) := by
      rw [binV_str_eql]
      exact congrArg (fun b => some (Value.bool b)) (beq_self_eq_true _)
    rw [hs, pVal_some]
    simp
    have hb : (hStat m6 1 s').cells[2]? = some (i64 (hStat m6 1 s').blocks) := rfl
    have hb8 : (hStat m6 1 s').cells[8]? = some (i64 (hStat m6 1 s').waiting) := rfl
    refine pLd1 b10 lay_3 hb ?_
    rw [f3.2.2.1]
    simp
    refine pLd1 b10 lay_3 hb8 ?_
    rw [f3.2.2.2]
    simp
    refine House_Create hr10 f6 fun w11 γ11 hk11 hr11 => ?_
    rw [f4.1]
    simp
    refine House_Slots hr11 ?_
    rw [f4.2.1]
    simp
    refine House_Up hr11 ?_
    rw [f4.2.2]
    have hf510 : Fr w5 w10 := ((hf6.trans hf7).trans hf8).trans hf810
    have hk := (hk5.trans (hf510.keep hr5.wf) fun _ h => h).trans hk11 fun _ h => h
    exact k w11 (hk.ch.mono fun x _ hx => by unfold hC at hx; omega)
end
end Go.Al

namespace Go.Al
open Go Go.Proofs
section
variable {w : World} {K : Value → World → Prop}
theorem led_tens {xs : List (TenM × Value)} (h : xs.length = 4) (g e : Int) : ((ledCells g e xs).drop 2).take 20 = xs.flatMap cTen := by
  unfold ledCells
  show (xs.flatMap cTen).take 20 = _
  rw [List.take_of_length_le (by rw [length_flatMap cTen_len, h]; omega)]
theorem Ref10_Same {l1 l2 : LedM} {xs1 xs2 : List (TenM × Value)} (h1 : LedX w xs1 l1) (h2 : LedX w xs2 l2) (k : ∀ w', Fr w w' → K (.bool (decide (l1 = l2))) w') : pCall P 34 [ledVal l1 xs1, ledVal l2 xs2] K w := by
  refine c34 ?_
  unfold G34
  refine pNew_of (ledCells l1.gen l1.epochs xs1) rfl fun b1 w1 hb1 hbl1 hf1 m1 => ?_
  refine pNew_of (ledCells l2.gen l2.epochs xs2) rfl fun b2 w2 hb2 hbl2 hf2 m2 => ?_
  have m1 := hf2.blk m1 fun h => h
  have hf02 := hf1.trans hf2
  refine join0 (fun w' => w2 = w' ∧ l1.gen = l2.gen ∧ l1.epochs = l2.epochs) ?_ ?_
  rotate_left
  · intro J hJ
    simp
    refine pLd1 m1 lay_3 rfl ?_
    refine pLd1 m2 lay_3 rfl ?_
    by_cases g1 : l1.gen = l2.gen
    rotate_left
    · simp [g1]
      have := k w2 hf02
      rw [decide_eq_false (fun h => g1 (by rw [h]))] at this
      exact this
    simp [g1]
    refine pLd1 m1 lay_3 rfl ?_
    refine pLd1 m2 lay_3 rfl ?_
    by_cases g2 : l1.epochs = l2.epochs
    rotate_left
    · simp [g2]
      have := k w2 hf02
      rw [decide_eq_false (fun h => g2 (by rw [h]))] at this
      exact this
    simp [g2]
    exact hJ w2 ⟨rfl, g1, g2⟩
  rintro w' ⟨rfl, hg, he⟩
  simp
  refine pLdN (xs1.flatMap cTen) m1 lay_54 (by rw [ledCells_len h1.len]; omega) (led_tens h1.len _ _) ?_
  refine loop1_up 4 (fun i w' => Fr w2 w' ∧ ∀ j, j < i → l1.tens[j]? = l2.tens[j]?) ⟨Ch.refl _ _, fun j h => by omega⟩ ?_
  rintro i w3 ag hag hi ⟨hf3, heq⟩
  have hf03 := hf02.trans hf3
  by_cases hi4 : i < 4
  rotate_left
  · have hi4' : ¬ (i : Int) < 4 := by omega
    simp [hi4']
    have := k w3 hf03
    have e : l1 = l2 := by
      obtain ⟨a1, a2, a3⟩ := l1
      obtain ⟨c1, c2, c3⟩ := l2
      simp only at hg he heq
      subst hg; subst he
      congr 1
      apply List.ext_getElem?
      intro j
      by_cases hj : j < i
      · exact heq j hj
      · have e1 : a3.length = 4 := by have := congrArg List.length h1.tens; rw [List.length_map, h1.len] at this; exact this.symm
        have e2 : c3.length = 4 := by have := congrArg List.length h2.tens; rw [List.length_map, h2.len] at this; exact this.symm
        rw [List.getElem?_eq_none (by omega), List.getElem?_eq_none (by omega)]
    rw [decide_eq_true e] at this
    exact this
  have hi' : (i : Int) < 4 := by omega
  simp [hi']
  obtain ⟨x, hx1, hx2, hx3, _⟩ := h1.at hi4
  obtain ⟨y, hy1, hy2, hy3, _⟩ := h2.at hi4
  have hne : x.1 ≠ y.1 → l1 ≠ l2 := fun hn h => hn (by rw [h] at hx3; rw [hx3] at hy3; exact Option.some.inj hy3)
  refine pIndexA (tenVal x) und_54 lay_53 (by omega) (by omega) (by simpa using ten_at hx1) ?_
  have ox := h1.mem x hx2
  have oy := h2.mem y hy2
  refine pAlloc_of (cTen (TenM.zero, .slice none 0 0)) zero_53 rfl fun c1 w4 hc1 hcl1 hf4 n1 => ?_
  refine pStN (cTen x) n1 lay_53 rfl rfl (by simp [cTen]) ?_ fun w5 hc5 n1 => ?_
  · simp only [cTen, List.all_cons, List.all_nil, Bool.and_true, Bool.and_eq_true]
    exact ⟨rfl, rfl, rfl, rfl, ox.one⟩
  have n1 : Blk w5 c1 53 (cTen x) := n1
  have hf35 : Fr w3 w5 := Ch.new hf4 hc1 hc5
  have m25 := (hf3.trans hf35).blk m2 fun h => h
  refine pLdN (cTen y) m25 lay_53 ?_ ?_ ?_
  · rw [ledCells_len h2.len]; omega
  · exact led_entry hy1
  refine pAlloc_of (cTen (TenM.zero, .slice none 0 0)) zero_53 rfl fun c2 w6 hc2 hcl2 hf6 n2 => ?_
  refine pStN (cTen y) n2 lay_53 rfl rfl (by simp [cTen]) ?_ fun w7 hc7 n2 => ?_
  · simp only [cTen, List.all_cons, List.all_nil, Bool.and_true, Bool.and_eq_true]
    exact ⟨rfl, rfl, rfl, rfl, oy.one⟩
  have n2 : Blk w7 c2 53 (cTen y) := n2
  have hf57 : Fr w5 w7 := Ch.new hf6 hc2 hc7
  have n1 := hf57.blk n1 fun h => h
  have hf07 := hf03.trans (hf35.trans hf57)
  have no : x.1 ≠ y.1 → K (.bool false) w7 := fun hn => by
    have := k w7 hf07
    rw [decide_eq_false (hne hn)] at this
    exact this
  refine join0 (fun w' => w7 = w' ∧ x.1.there = y.1.there ∧ x.1.epoch = y.1.epoch ∧ x.1.size = y.1.size ∧ x.1.spare = y.1.spare ∧ x.1.blocks.length = y.1.blocks.length) ?_ ?_
  rotate_left
  · intro J hJ
    simp
    refine pLd1 n1 lay_4 rfl ?_
    refine pLd1 n2 lay_4 rfl ?_
    rw [binV_bool_neq (by simp), pVal_some]
    by_cases g1 : x.1.there = y.1.there
    rotate_left
    · simp [g1]; exact no fun h => g1 (by rw [h])
    simp [g1]
    refine pLd1 n1 lay_3 rfl ?_
    refine pLd1 n2 lay_3 rfl ?_
    by_cases g2 : x.1.epoch = y.1.epoch
    rotate_left
    · simp [g2]; exact no fun h => g2 (by rw [h])
    simp [g2]
    refine pLd1 n1 lay_3 rfl ?_
    refine pLd1 n2 lay_3 rfl ?_
    by_cases g3 : x.1.size = y.1.size
    rotate_left
    · simp [g3]; exact no fun h => g3 (by rw [h])
    simp [g3]
    refine pLd1 n1 lay_3 rfl ?_
    refine pLd1 n2 lay_3 rfl ?_
    by_cases g4 : x.1.spare = y.1.spare
    rotate_left
    · simp [g4]; exact no fun h => g4 (by rw [h])
    simp [g4]
    refine pLd1 n1 lay_24 rfl ?_
    rw [ox.len (by simp), pVal_some]
    refine pLd1 n2 lay_24 rfl ?_
    rw [oy.len (by simp), pVal_some]
    by_cases g5 : x.1.blocks.length = y.1.blocks.length
    rotate_left
    · have g5' : ¬ (x.1.blocks.length : Int) = y.1.blocks.length := by omega
      simp [g5']; exact no fun h => g5 (by rw [h])
    simp [g5]
    exact hJ w7 ⟨rfl, g1, g2, g3, g4, g5⟩
  rintro w' ⟨rfl, g1, g2, g3, g4, g5⟩
  simp
  refine pLd1 n1 lay_24 rfl ?_
  rw [ox.len (by simp), pVal_some]
  have fx := h1.few x hx2
  have ox7 := ox.fr hf07
  have oy7 := oy.fr hf07
  refine loop1_up x.1.blocks.length (fun j w' => Fr w7 w' ∧ x.1.blocks.take j = y.1.blocks.take j) ⟨Ch.refl _ _, rfl⟩ ?_
  rintro j w8 ag8 hag8 hj ⟨hf8, hjq⟩
  by_cases hjl : j < x.1.blocks.length
  rotate_left
  · have hjl' : ¬ (j : Int) < x.1.blocks.length := by omega
    simp [hjl']
    rw [wrap_succ (by omega)]
    rw [List.take_of_length_le (by omega), List.take_of_length_le (by omega)] at hjq
    refine hag (i + 1) w8 (by omega) (by omega) ⟨hf3.trans ((hf35.trans hf57).trans hf8), fun j' hj' => ?_⟩
    by_cases hji : j' < i
    · exact heq j' hji
    · have : j' = i := by omega
      subst this
      rw [hx3, hy3]
      obtain ⟨⟨q1, q2, q3, q4, q5⟩, vx⟩ := x
      obtain ⟨⟨r1, r2, r3, r4, r5⟩, vy⟩ := y
      simp only at g1 g2 g3 g4 hjq
      rw [g1, g2, g3, g4, hjq]
  have hjl' : (j : Int) < x.1.blocks.length := by omega
  have hjy : j < y.1.blocks.length := by omega
  simp [hjl']
  refine pDraw_fr (fun w' => Fr w8 w') fun w9 hf9 _ _ => ⟨hf9, ?_⟩
  have n18 := hf8.blk n1 fun h => h
  have n28 := hf8.blk n2 fun h => h
  obtain ⟨eb, eo, eT, el, _, heb, hidx, heo, hec, _⟩ := Sl.at (ox7.fr hf8) (List.getElem?_eq_getElem hjl) (by omega)
  obtain ⟨fb, fo, fT, fl, _, hfb, hidf, hfo, hfc, _⟩ := Sl.at (oy7.fr hf8) (List.getElem?_eq_getElem hjy) (by omega)
  refine pHld1 (fun w' hS => hS.blk n18 fun h => h) lay_24 rfl ?_
  rw [hidx _ _ idx_24, pVal_some]
  refine pHld1 (fun w' hS => hS.blk heb fun h => h) lay_3 (take_one hec) ?_
  refine pHld1 (fun w' hS => hS.blk n28 fun h => h) lay_24 rfl ?_
  rw [hidf _ _ idx_24, pVal_some]
  refine pHld1 (fun w' hS => hS.blk hfb fun h => h) lay_3 (take_one hfc) ?_
  by_cases g : x.1.blocks[j] = y.1.blocks[j]
  · simp [g]
    rw [wrap_succ (by omega)]
    refine hag8 (j + 1) w9 (by omega) (by omega) ⟨hf8.trans hf9, ?_⟩
    rw [List.take_succ_eq_append_getElem hjl, List.take_succ_eq_append_getElem hjy, hjq, g]
  · simp [g]
    have := k w9 (hf07.trans (hf8.trans hf9))
    rw [decide_eq_false (hne fun h => g (by
      have e : x.1.blocks = y.1.blocks := by rw [h]
      have e1 : x.1.blocks[j]? = y.1.blocks[j]? := by rw [e]
      rw [List.getElem?_eq_getElem hjl, List.getElem?_eq_getElem hjy] at e1
      exact Option.some.inj e1))] at this
    exact this
end
end Go.Al

namespace Go.Al
open Go Go.Proofs
structure ActM where
  kind : Int
  t : Int
  o : Int
  size : Int
  spare : Int
  c : CmdM
def ActM.cells (a : ActM) : List Value := [.int .u8 a.kind, i64 a.t, i64 a.o, i64 a.size, i64 a.spare, i64 a.c.op, i64 a.c.place, sV a.c.data]
def ActM.val (a : ActM) : Value := .agg a.cells.toArray
section
variable {w : World} {K : Value → World → Prop}
theorem House_Swap_nil {a b : Int} (k : ∀ w', Fr w w' → K (i64 12) w') : pCall P 20 [.pointer none, i64 a, i64 b] K w := by
  refine c20 ?_
  unfold G20
  refine pNew_of [i64 a] (by simp) fun ab w1 hab habl hf1 b1 => ?_
  refine pNew_of [i64 b] (by simp) fun bb w2 hbb hbbl hf2 b2 => ?_
  refine pLd1 (hf2.blk b1 fun h => h) lay_3 rfl ?_
  refine pLd1 b2 lay_3 rfl ?_
  refine pRowN [a, b] sli_int cI_len rfl (by omega) (rowV_int2 a b) fun v w3 hv hf3 hfr3 => ?_
  rw [hv.len (by simp), pVal_some]
  refine loop1_up 2 (fun i w' => i = 0 ∧ Fr w3 w') ⟨rfl, Ch.refl _ _⟩ ?_
  rintro i w4 ag _ _ ⟨rfl, hf4⟩
  simp
  obtain ⟨eb, eo, eT, el, _, heb, hidx, heo, hec, _⟩ := Sl.at (hv.fr hf4) (i := 0) (x := a) rfl (by omega)
  have hidx' := hidx 24 .i64 idx_24
  simp only [Int.natCast_zero] at hidx'
  rw [hidx', pVal_some]
  refine pLd1 heb lay_3 (take_one hec) ?_
  refine House_there_nil ?_
  simp
  exact k w4 ((hf1.trans hf2).trans (hf3.trans hf4))
theorem Law21_None {a : ActM} (k : ∀ w', Fr w w' → K (.bool true) w') : pCall P 5 [a.val] K w := by
  refine c5 ?_
  unfold G5
  refine pNew_of a.cells rfl fun ab w1 hab habl hf1 b1 => ?_
  refine Law21_fixed fun w2 hf2 => ?_
  have b2 := hf2.blk b1 fun h => h
  try simp
  refine House_Cut_nil ?_
  refine House_Budget_nil ?_
  refine pLd1 b2 lay_3 rfl ?_
  refine House_Stat_nil fun w3 hf3 => ?_
  have b3 := hf3.blk b2 fun h => h
  simp only [extractV_tuple, List.getElem?_toArray, List.getElem?_cons_zero, List.getElem?_cons_succ, pVal_some]
  refine pAlloc_of StatM.zero.cells zero_stat rfl fun sb w4 hsb hsbl hf4 c4 => ?_
  refine pStN StatM.zero.cells c4 lay_43 rfl rfl (by simp [StatM.cells]) rfl fun w5 hc5 c5 => ?_
  have hf35 : Fr w3 w5 := Ch.new hf4 hsb hc5
  have b5 := hf35.blk b3 fun h => h
  refine pLd1 b5 lay_3 rfl ?_
  refine House_Peek_nil ?_
  simp only [extractV_tuple, List.getElem?_toArray, List.getElem?_cons_zero, List.getElem?_cons_succ, pVal_some]
  refine pLd1 b5 lay_3 rfl ?_
  refine pLd1 b5 lay_3 rfl ?_
  refine pLd1 b5 lay_3 rfl ?_
  refine House_Create_nil fun w6 hf6 => ?_
  have b6 := hf6.blk b5 fun h => h
  try simp
  refine pLd1 b6 lay_3 rfl ?_
  refine House_Destroy_nil fun w7 hf7 => ?_
  have b7 := hf7.blk b6 fun h => h
  try simp
  refine pLd1 b7 lay_3 rfl ?_
  refine House_Resize_nil fun w8 hf8 => ?_
  have b8 := hf8.blk b7 fun h => h
  try simp
  refine pLd1 b8 lay_3 rfl ?_
  refine pLd1 b8 lay_3 rfl ?_
  refine House_Swap_nil fun w9 hf9 => ?_
  have b9 := hf9.blk b8 fun h => h
  try simp
  refine pLd1 b9 lay_3 rfl ?_
  refine pLdN a.c.cells b9 lay_30 (by simp [ActM.cells]) rfl ?_
  refine House_Submit_nil (x := a.c) fun w10 hf10 => ?_
  have b10 := hf10.blk b9 fun h => h
  try simp
  refine pLd1 b10 lay_3 rfl ?_
  refine House_Mount_nil ?_
  try simp
  refine House_Slot_nil ?_
  try simp
  refine House_Up_nil ?_
  try simp
  refine House_Slots_nil ?_
  refine House_Ops_nil ?_
  try simp
  refine House_Done_nil ?_
  rw [lenBV_slice (by simp), pVal_some]
  have w0 : IntKind.i64.wrap 0 = 0 := by decide +kernel
  simp [w0]
  refine House_Array_nil ?_
  rw [binV_ptr_eql (by simp), pVal_some]
  try simp
  refine House_Ledger_nil fun w11 hf11 => ?_
  rw [led_build, pVal_some]
  refine Ref10_Same (l1 := LedM.zero) (l2 := LedM.zero) (xs1 := ledZs) (xs2 := ledZs) (ledZs_x _) (ledZs_x _) fun w12 hf12 => ?_
  rw [decide_eq_true rfl]
  exact k w12 (((((((((hf1.trans hf2).trans hf3).trans hf35).trans hf6).trans hf7).trans hf8).trans hf9).trans hf10).trans (hf11.trans hf12))
end
end Go.Al

