/- HouseNone: a nil house is down and has nothing; this text: part 5 of the proof, no condition. -/
import Derived.Test.YtaoepimoakcdaaaGreatAl4
import Derived.Laws.Strings
namespace Go.Al
open Go Go.Proofs
/-- What comes of an operation: 0: it is done; 10: it fails; 11: the power goes in it; 12: the power is gone. -/
def spendM (pw : PowerM) (dr : DrawsM) (who : Int) : Int × PowerM × DrawsM :=
  if pw.spend.1 = 12 then (12, pw.spend.2, dr) else if pw.spend.1 = 11 then (11, pw.spend.2, dr) else if (dr.next who).1 = true then (10, pw.spend.2, (dr.next who).2) else (0, pw.spend.2, (dr.next who).2)
theorem Nand_spend {w : World} {γ : Col} {A : ArrA} {fv : Value} {hd : List Value} {pw : PowerM} {dr : DrawsM} {who : Int} {K : Value → World → Prop}
    (h : Blk w A.n 127 hd) (hp : hd[4]? = some (ptr A.p 0)) (hdd : hd[5]? = some (ptr A.d 0)) (c1 : γ A.n = 1) (c6 : γ A.p = 6) (hpw : PowerR w A.p pw) (hdr : DrawsR w γ A.d dr)
    (k : ∀ w1, Ch (fun b => b = A.p ∨ b = A.d) w w1 → PowerR w1 A.p (spendM pw dr who).2.1 → DrawsR w1 γ A.d (spendM pw dr who).2.2 →
      if (spendM pw dr who).1 = 12 then K (i64 12) w1 else if (spendM pw dr who).1 = 11 then pCallV P fv [] (fun _ => K (i64 12)) w1 else if (spendM pw dr who).1 = 10 then pCallV P fv [] (fun _ => K (i64 10)) w1 else K (i64 0) w1) :
    pCall P 160 [ptr A.n 0, i64 who, fv] K w := by
  refine c160 ?_
  unfold G160
  simp
  refine pLd1 h lay_93 hp ?_
  refine Power_Spend hpw fun w1 hc1 hpw1 => ?_
  have hnp : A.n ≠ A.p := fun e => by rw [e, c6] at c1; cases c1
  have hdp : A.d ≠ A.p := fun e => by have := hdr.col; rw [e, c6] at this; cases this
  have hnd : A.n ≠ A.d := fun e => by have := hdr.col; rw [← e, c1] at this; cases this
  have hdr1 : DrawsR w1 γ A.d dr := by
    obtain ⟨h1, h2, h3, xs, h4, h5, h6⟩ := hdr
    refine ⟨h1, h2, h3, xs, h4, hc1.blk h5 hdp, fun x hx => ⟨(h6 x hx).1.ch hc1 fun c hc he => ?_, (h6 x hx).2⟩⟩
    have := (h6 x hx).2 c hc
    rw [he, c6] at this; cases this
  by_cases e12 : pw.spend.1 = 12
  · have e : spendM pw dr who = (12, pw.spend.2, dr) := by unfold spendM; rw [if_pos e12]
    have := k w1 (hc1.mono fun b _ h => .inl h) (by rw [e]; exact hpw1) (by rw [e]; exact hdr1)
    rw [e] at this
    simpa [e12] using this
  · by_cases e11 : pw.spend.1 = 11
    · have e : spendM pw dr who = (11, pw.spend.2, dr) := by unfold spendM; rw [if_neg e12, if_pos e11]
      have := k w1 (hc1.mono fun b _ h => .inl h) (by rw [e]; exact hpw1) (by rw [e]; exact hdr1)
      rw [e] at this
      simpa [e11] using this
    · simp [e12, e11]
      refine pLd1 (hc1.blk h hnp) lay_90 hdd ?_
      refine Draws_Next hdr1 fun w2 hc2 hdr2 => ?_
      have hch : Ch (fun b => b = A.p ∨ b = A.d) w w2 := (hc1.mono fun b _ h => .inl h).trans hc2 fun b _ h => .inr h
      have hpw2 : PowerR w2 A.p pw.spend.2 := hc2.blk hpw1 fun e => hdp e.symm
      by_cases hf : (dr.next who).1 = true
      · have e : spendM pw dr who = (10, pw.spend.2, (dr.next who).2) := by unfold spendM; rw [if_neg e12, if_neg e11, if_pos hf]
        have := k w2 hch (by rw [e]; exact hpw2) (by rw [e]; exact hdr2)
        rw [e] at this
        simpa [hf] using this
      · have e : spendM pw dr who = (0, pw.spend.2, (dr.next who).2) := by unfold spendM; rw [if_neg e12, if_neg e11, if_neg hf]
        have := k w2 hch (by rw [e]; exact hpw2) (by rw [e]; exact hdr2)
        rw [e] at this
        simpa [hf] using this
/-- A page of a block is given, and the next page told. -/
def BlockM.put (x : BlockM) (i : Nat) (p : PageM) : BlockM := { x with pages := x.pages.set i p, next := i + 1 }
def BlockM.tear (x : BlockM) (i : Nat) : BlockM := match x.pages[i]? with
  | some p => x.put i { p with st := 2 }
  | none => x
theorem splice3 {l c d : List Value} {o : Nat} {k n : Nat} {v : Value} (hc : (l.drop o).take n = c) (hl : o + n ≤ l.length) (hk : k < n) (hd : c.set k v = d) : l.set (o + k) v = splice l o d := by
  have hcl : c.length = n := by rw [← hc]; simp; omega
  rw [← splice_one _ _ _ (by omega), splice_sub (vs := [v]) hc hl (by simp; omega), splice_one _ _ _ (by omega), hd]
theorem take_splice {l d : List Value} {o n : Nat} (hd : d.length = n) (hl : o + n ≤ l.length) : ((splice l o d).drop o).take n = d := by
  unfold splice
  have : (l.take o).length = o := by simp; omega
  rw [List.drop_append_of_le_length (by omega), List.drop_take, Nat.sub_self]
  simp [← hd]
theorem splice_splice {l d e : List Value} {o n : Nat} (hd : d.length = n) (he : e.length = n) (hl : o + n ≤ l.length) : splice (splice l o d) o e = splice l o e := by
  unfold splice
  have : (l.take o).length = o := by simp; omega
  rw [List.take_append_of_le_length (by omega), List.take_take, Nat.min_self, he, hd]
  congr 1
  congr 1
  rw [← List.append_assoc, List.drop_append, List.drop_of_length_le (by simp; omega)]
  simp [hd]
  congr 1
  omega
/-- The closure that tears a page. -/
theorem Program_torn {w : World} {γ : Col} {b o vb vi c : Nat} {T : TypeId} {l : List Value} {x : BlockM} {pv : Value} {i : Nat} {K : Value → World → Prop} (hw : Wf w γ) (hc : 100 ≤ c)
    (hb : Blk w b T l) (h2 : γ b = 2) (ho : o + 4 ≤ l.length) (hx : (l.drop o).take 4 = cBk (x, pv)) (hp : PagesR w γ c pv x.pages) (h1 : Blk w vb 128 [ptr b o]) (h3 : Blk w vi 3 [i64 i]) (c1 : γ vb = 0) (c3 : γ vi = 0)
    (hi : i < x.pages.length) (hi63 : i < 1000)
    (k : ∀ w1, Keep (fun c' => c' = 2 ∨ c' = c) w γ w1 γ → Blk w1 b T (splice l o (cBk (x.tear i, pv))) → PagesR w1 γ c pv (x.tear i).pages → K (.tuple #[]) w1) :
    pCall P 201 [ptr vb 0, ptr vi 0] K w := by
  refine c201 ?_
  unfold G201
  obtain ⟨p, hpi⟩ : ∃ p, x.pages[i]? = some p := ⟨x.pages[i], List.getElem?_eq_getElem hi⟩
  refine pDraw_fr (fun w' => Blk w' vb 128 [ptr b o] ∧ Blk w' vi 3 [i64 i] ∧ Blk w' b T l) fun w1 hf1 hbl1 hsz1 => ⟨⟨hbl1 _ _ _ h1, hbl1 _ _ _ h3, hbl1 _ _ _ hb⟩, ?_⟩
  refine pHld1 (fun w' hS => hS.1) lay_128 rfl ?_
  simp
  refine pHld1 (fun w' hS => hS.2.2) lay_130 (by have := take_at hx (k := 0) (by omega); simpa [cBk] using this) ?_
  refine pHld1 (fun w' hS => hS.2.1) lay_3 rfl ?_
  have hk1 : Keep (fun c' => c' = 2 ∨ c' = c) w γ w1 γ := hf1.keep hw
  have hp1 := hp.keep (hf1.keep (C := fun _ => False) hw) (fun h => h) fun h => h
  obtain ⟨pb, po, pT, pl, bv, hlv, hpc, hpb, hidx, hpo, hpx, hbs, hbc, hback⟩ := hp1.at hpi
  rw [hidx _ _ (by simp), pVal_some]
  simp
  refine pSt1 hpb lay_234 rfl rfl (by omega) fun w2 hc2 hb2 => ?_
  have hpb2 : pb ≠ b := fun e => by rw [e, h2] at hpc; omega
  have e2 := splice3 (k := 0) (v := Value.int IntKind.i64 2) (d := [i64 2, bv, sV p.data]) hpx hpo (by omega) rfl
  simp only [Nat.add_zero] at e2
  rw [e2] at hb2
  have hk2 : Keep (fun c' => c' = 2 ∨ c' = c) w γ w2 γ := hk1.trans (hc2.keep (C := fun c' => c' = c) hk1.wf fun b' _ he => by rw [he]; exact hpc) fun c' h => .inr h
  have hk12 : Keep (fun c' => c' = c) w1 γ w2 γ := hc2.keep hk1.wf fun b' _ he => by rw [he]; exact hpc
  have hb4 : ∀ b', live bv = some b' → b' ≠ pb := fun b' h e => by have := hbc b' h; rw [e, hpc] at this; omega
  have hp2 := hback _ w2 γ { p with st := 2 } bv _ hk12 (by omega) hb2 rfl (hbs.ch hc2 hb4) hbc
  have hbb2 := hk12.blk (hbl1 _ _ _ hb) (by rw [h2]; omega)
  refine pLd1 (hk12.blk (hbl1 _ _ _ h1) (by rw [c1]; omega)) lay_128 rfl ?_
  refine pLd1 (hk12.blk (hbl1 _ _ _ h3) (by rw [c3]; omega)) lay_3 rfl ?_
  simp
  refine pSt1 hbb2 lay_3 rfl rfl (by omega) fun w3 hc3 hb3 => ?_
  have et : x.tear i = { x with pages := x.pages.set i { p with st := 2 }, next := i + 1 } := by unfold BlockM.tear BlockM.put; rw [hpi]
  rw [wrap_succ (by omega)] at hb3
  rw [splice3 (k := 1) (d := cBk (x.tear i, pv)) hx ho (by omega) (by rw [et]; rfl)] at hb3
  have hk23 : Keep (fun c' => c' = 2) w2 γ w3 γ := hc3.keep hk2.wf fun b' _ he => by rw [he]; exact h2
  refine k w3 (hk2.trans hk23 fun c' h => .inl h) hb3 ?_
  rw [et]
  exact hp2.keep hk23 (by omega) (by omega)
end Go.Al

namespace Go.Al
open Go Go.Proofs
def ArrM.setBlk (a : ArrM) (i : Int) (x : BlockM) : ArrM := { a with bl := a.bl.set i.toNat x }
def ArrM.spend (a : ArrM) (who : Int) : Int × ArrM := ((spendM a.pw a.dr who).1, { a with pw := (spendM a.pw a.dr who).2.1, dr := (spendM a.pw a.dr who).2.2 })
/-- A page is written. -/
def ArrM.program (a : ArrM) (who at_ i : Int) (beside data : List UInt8) : Int × ArrM :=
  match a.blk at_ with
  | none => (5, a)
  | some x =>
    if i < 0 ∨ x.pages.length ≤ i then (5, a) else
    if 32 < beside.length ∨ 160 < data.length then (3, a) else
    if x.bad then (10, a) else
    if i ≠ x.next then (9, a) else
    if (a.spend who).1 = 12 then (12, (a.spend who).2) else
    if (a.spend who).1 = 11 then (12, (a.spend who).2.setBlk at_ (x.tear i.toNat)) else
    if (a.spend who).1 = 10 then (10, (a.spend who).2.setBlk at_ (x.tear i.toNat)) else
    (0, (a.spend who).2.setBlk at_ (x.put i.toNat ⟨1, beside, data⟩))
theorem ArrM.ok.set {a : ArrM} (h : a.ok) {i : Int} {x : BlockM} (hx : x.pages.length ≤ 16 ∧ x.next ≤ x.pages.length ∧ ∀ p ∈ x.pages, p.beside.length ≤ 32 ∧ p.data.length ≤ 160) : (a.setBlk i x).ok := by
  refine ⟨by simpa [ArrM.setBlk] using h.blocks, fun y hy => ?_⟩
  rcases List.mem_or_eq_of_mem_set hy with hy | rfl
  · exact h.block y hy
  · exact hx
theorem ArrM.ok.spend {a : ArrM} (h : a.ok) (who : Int) : (a.spend who).2.ok := ⟨h.blocks, h.block⟩
theorem BlockM.put_ok {x : BlockM} (h : x.pages.length ≤ 16 ∧ x.next ≤ x.pages.length ∧ ∀ p ∈ x.pages, p.beside.length ≤ 32 ∧ p.data.length ≤ 160) {i : Nat} (hi : i < x.pages.length) {p : PageM} (hp : p.beside.length ≤ 32 ∧ p.data.length ≤ 160) :
    (x.put i p).pages.length ≤ 16 ∧ (x.put i p).next ≤ (x.put i p).pages.length ∧ ∀ q ∈ (x.put i p).pages, q.beside.length ≤ 32 ∧ q.data.length ≤ 160 := by
  refine ⟨by simpa [BlockM.put] using h.1, by simp [BlockM.put]; omega, fun q hq => ?_⟩
  rcases List.mem_or_eq_of_mem_set hq with hq | rfl
  · exact h.2.2 q hq
  · exact hp
theorem BlockM.tear_ok {x : BlockM} (h : x.pages.length ≤ 16 ∧ x.next ≤ x.pages.length ∧ ∀ p ∈ x.pages, p.beside.length ≤ 32 ∧ p.data.length ≤ 160) {i : Nat} (hi : i < x.pages.length) :
    (x.tear i).pages.length ≤ 16 ∧ (x.tear i).next ≤ (x.tear i).pages.length ∧ ∀ q ∈ (x.tear i).pages, q.beside.length ≤ 32 ∧ q.data.length ≤ 160 := by
  unfold BlockM.tear
  rw [List.getElem?_eq_getElem hi]
  exact BlockM.put_ok h hi (h.2.2 x.pages[i] (List.getElem_mem hi))
/-- The array's parts are put together again. -/
theorem ArrR.made {w : World} {γ : Col} {A : ArrA} {a : ArrM} {v : Value} (cn : γ A.n = 1) (cp : γ A.p = 6) (hp : PowerR w A.p a.pw) (hd : DrawsR w γ A.d a.dr) (h : Blk w A.n 127 (a.g.cells ++ [ptr A.p 0, ptr A.d 0, v]))
    (hb : BlocksR w γ v a.bl) (ok : a.ok) : ArrR w γ A a := ⟨cn, cp, hp, hd, ⟨v, h, hb⟩, ok⟩
theorem ArrR.fr {w w' : World} {γ : Col} {A : ArrA} {a : ArrM} (h : ArrR w γ A a) (hw : Wf w γ) (hf : Fr w w') : ArrR w' γ A a := h.keep (hf.keep (C := fun _ => False) hw) fun _ _ _ _ h => h
theorem bytes_len {l : List UInt8} : (⟨l.toArray⟩ : ByteArray).size = l.length := rfl
theorem Nand_Program {w : World} {γ : Col} {A : ArrA} {a : ArrM} {who at_ i : Int} {bv : Value} {beside data : List UInt8} {K : Value → World → Prop} (hw : Wf w γ) (h : ArrR w γ A a)
    (hbs : Bytes w bv beside) (hbc : ∀ b, live bv = some b → γ b = 0)
    (k : ∀ w' γ', Keep arrC w γ w' γ' → ArrR w' γ' A (a.program who at_ i beside data).2 → K (i64 (a.program who at_ i beside data).1) w') :
    pCall P 165 [ptr A.n 0, i64 who, i64 at_, i64 i, bv, sV data] K w := by
  refine c165 ?_
  unfold G165
  refine pNew_of [i64 i] rfl fun vi w1 hvi hvil hf1 h1 => ?_
  have hA1 := h.fr hw hf1
  have hw1 : Wf w1 γ := (hf1.keep (C := arrC) hw).wf
  have ci : γ vi = 0 := hw vi (by omega)
  refine hA1.at2 (fun hn hi => ?_) fun b o x T l pv v h0 h64 hx hxi hb2 hb ho hc hpg h5 h6 hback => ?_
  · refine pAlloc_of [.pointer none] zero_128 rfl fun vb w2 hvb hvbl hf2 h2 => ?_
    refine pSt1 h2 lay_128 rfl rfl (by simp) fun w3 hc3 h3 => ?_
    simp only [binV_ptr_eql kind_58, pVal_some, pIf_bool, Option.isNone_some, Bool.false_eq_true, if_false]
    refine pJoin1_in ?_
    refine pDraw_fr (fun w' => Blk w' vb 128 [.pointer none]) fun w4 hf4 hb4 hs4 => ⟨hb4 _ _ _ h3, ?_⟩
    refine pHld1 (fun w' h => h) lay_128 rfl ?_
    simp [binV_ptr_eql]
    have e : a.program who at_ i beside data = (5, a) := by unfold ArrM.program; rw [hn]
    have hfr : Fr w w4 := Fr.trans (Ch.trans' (hf1.trans hf2) (by rw [hvb]; exact hf1.size) hc3) hf4
    have := k w4 γ (hfr.keep hw) (by rw [e]; exact h.fr hw hfr)
    rw [e] at this
    exact this
  · refine pAlloc_of [.pointer none] zero_128 rfl fun vb w2 hvb hvbl hf2 h2 => ?_
    refine pSt1 h2 lay_128 rfl rfl (by simp) fun w3 hc3 h3 => ?_
    simp only [binV_ptr_eql kind_58, pVal_some, pIf_bool, Option.isNone_some, Bool.false_eq_true, if_false]
    have hf13 : Fr w1 w3 := Ch.new hf2 hvb hc3
    have hf03 : Fr w w3 := hf1.trans hf13
    have cb : γ vb = 0 := hw vb (by rw [hvb]; exact hf1.size)
    have h3' : Blk w3 vb 128 [ptr b o] := h3
    have hi3 : Blk w3 vi 3 [i64 i] := hf13.blk h1 fun h => h
    have hb3 := hf13.blk hb fun h => h
    have hpv0 : l[o]? = some pv := by have := take_at hc (k := 0) (by omega); simpa [cBk] using this
    have hpg3 := hpg.keep (hf13.keep (C := fun _ => False) hw1) (fun h => h) fun h => h
    have hok := hA1.ok.block x (List.mem_of_getElem? hxi)
    refine join1 (fun v w' => v = .bool (decide (i < 0 ∨ (x.pages.length : Int) ≤ i)) ∧ Fr w3 w') ?_ ?_
    rotate_left
    · intro J hJ
      refine pDraw_fr (fun w' => Blk w' vb 128 [ptr b o] ∧ Blk w' vi 3 [i64 i] ∧ Blk w' b T l) fun w4 hf4 hb4 hs4 => ⟨⟨hb4 _ _ _ h3', hb4 _ _ _ hi3, hb4 _ _ _ hb3⟩, ?_⟩
      refine pHld1 (fun w' h => h.1) lay_128 rfl ?_
      simp [binV_ptr_eql]
      refine pHld1 (fun w' h => h.2.1) lay_3 rfl ?_
      simp
      by_cases g1 : i < 0
      · simp [g1]
        exact hJ _ _ ⟨by simp [g1], hf4⟩
      · simp [g1]
        refine pHld1 (fun w' h => h.2.1) lay_3 rfl ?_
        refine pHld1 (fun w' h => h.1) lay_128 rfl ?_
        simp
        refine pHld1 (fun w' h => h.2.2) lay_130 hpv0 ?_
        rw [(hpg3.keep (hf4.keep (C := fun _ => False) (hf13.keep (C := fun _ => False) hw1).wf) (fun h => h) fun h => h).len (by simp), pVal_some]
        simp
        exact hJ _ _ ⟨by simp [g1], hf4⟩
    rintro _ w4 ⟨rfl, hf4⟩
    have hf14 := hf13.trans hf4
    have hf04 := hf03.trans hf4
    have hA4 := h.fr hw hf04
    rw [pIf_bool]
    by_cases g1 : i < 0 ∨ (x.pages.length : Int) ≤ i
    · simp only [g1, decide_true, if_true]
      have e : a.program who at_ i beside data = (5, a) := by unfold ArrM.program; rw [hx]; simp only; rw [if_pos g1]
      have := k w4 γ (hf04.keep hw) (by rw [e]; exact hA4)
      rw [e] at this
      exact this
    simp only [g1, decide_false, Bool.false_eq_true, if_false]
    refine join1 (fun v w' => v = .bool (decide (32 < beside.length ∨ 160 < data.length)) ∧ w' = w4) ?_ ?_
    rotate_left
    · intro J hJ
      rw [(hbs.fr hf04).len (by simp), pVal_some]
      simp
      by_cases g2 : 32 < beside.length
      · have g2' : (32 : Int) < beside.length := by omega
        simp [g2']; exact hJ _ _ ⟨by simp [g2], rfl⟩
      · have g2' : ¬ (32 : Int) < beside.length := by omega
        rw [lenBV_string kind_9]
        simp [g2', bytes_len]
        refine hJ _ _ ⟨?_, rfl⟩
        by_cases g3 : 160 < data.length
        · have : (160 : Int) < data.length := by omega
          simp [g2, g3, this]
        · have : ¬ (160 : Int) < data.length := by omega
          simp [g2, g3, this]
    rintro _ w4' ⟨rfl, rfl⟩
    rw [pIf_bool]
    by_cases g2 : 32 < beside.length ∨ 160 < data.length
    · simp only [g2, decide_true, if_true]
      have e : a.program who at_ i beside data = (3, a) := by unfold ArrM.program; rw [hx]; simp only; rw [if_neg g1, if_pos g2]
      have := k w4' γ (hf04.keep hw) (by rw [e]; exact hA4)
      rw [e] at this
      exact this
    simp only [g2, decide_false, Bool.false_eq_true, if_false]
    refine pLd1 (hf4.blk h3' fun h => h) lay_128 rfl ?_
    simp
    have hb4 := hf4.blk hb3 fun h => h
    refine pLd1 hb4 lay_4 (by rw [take_at hc (by omega)]; rfl) ?_
    rw [pIf_bool]
    by_cases g3 : x.bad = true
    · simp only [g3, if_true]
      have e : a.program who at_ i beside data = (10, a) := by unfold ArrM.program; rw [hx]; simp only; rw [if_neg g1, if_neg g2, if_pos g3]
      have := k w4' γ (hf04.keep hw) (by rw [e]; exact hA4)
      rw [e] at this
      exact this
    simp only [g3, if_false]
    refine pDraw_fr (fun w' => Blk w' vb 128 [ptr b o] ∧ Blk w' vi 3 [i64 i] ∧ Blk w' b T l) fun w5 hf5 hb5 hs5 => ⟨⟨hb5 _ _ _ (hf4.blk h3' fun h => h), hb5 _ _ _ (hf4.blk hi3 fun h => h), hb5 _ _ _ hb4⟩, ?_⟩
    refine pHld1 (fun w' h => h.2.1) lay_3 rfl ?_
    refine pHld1 (fun w' h => h.1) lay_128 rfl ?_
    simp
    refine pHld1 (fun w' h => h.2.2) lay_3 (by rw [take_at hc (by omega)]; rfl) ?_
    simp
    have hf15 := hf14.trans hf5
    have hf05 := hf04.trans hf5
    have hA5 := h.fr hw hf05
    by_cases g4 : i = x.next
    · simp [g4]
      have hw5 : Wf w5 γ := (hf05.keep (C := arrC) hw).wf
      have hn5 : Blk w5 A.n 127 (a.g.cells ++ [ptr A.p 0, ptr A.d 0, v]) := hf15.blk h5 fun h => h
      refine Nand_spend hn5 rfl rfl h.cn h.cp hA5.power hA5.draws fun w6 hc6 hp6 hd6 => ?_
      have hk56 : Keep (fun c => c = 6 ∨ c = 7) w5 γ w6 γ := hc6.keep hw5 fun b' _ hb' => by
        rcases hb' with rfl | rfl
        · exact .inl h.cp
        · exact .inr h.draws.col
      have hw6 := hk56.wf
      have hk05 : Keep arrC w γ w5 γ := hf05.keep hw
      have hk06 : Keep arrC w γ w6 γ := hk05.trans hk56 fun c hc => by unfold arrC; omega
      have hn6 : Blk w6 A.n 127 (a.g.cells ++ [ptr A.p 0, ptr A.d 0, v]) := hk56.blk hn5 (by rw [h.cn]; omega)
      have hk15 : Keep (fun c => c = 6 ∨ c = 7) w1 γ w5 γ := hf15.keep hw1
      have hk16 : Keep (fun c => c = 6 ∨ c = 7) w1 γ w6 γ := hk15.trans hk56 fun c h => h
      have hbl6 : BlocksR w6 γ v a.bl := h6.keep hk16 (by omega) (by omega) (by omega)
      have hb6 : Blk w6 b T l := hk16.blk hb (by rw [hb2]; omega)
      have hpg6 : PagesR w6 γ (100 + at_.toNat) pv x.pages := hpg.keep hk16 (by omega) (by omega)
      have hvb6 : Blk w6 vb 128 [ptr b o] := hk56.blk (hb5 _ _ _ (hf4.blk h3' fun h => h)) (by rw [cb]; omega)
      have hvi6 : Blk w6 vi 3 [i64 x.next] := by have := hk56.blk (hb5 _ _ _ (hf4.blk hi3 fun h => h)) (by rw [ci]; omega); rw [g4] at this; exact this
      have hlt : x.next < x.pages.length := by omega
      have hsp : a.spend who = ((spendM a.pw a.dr who).1, (a.spend who).2) := rfl
      have hpr : ∀ r, (if (a.spend who).1 = 12 then (12, (a.spend who).2) else
          if (a.spend who).1 = 11 then (12, (a.spend who).2.setBlk at_ (x.tear i.toNat)) else
          if (a.spend who).1 = 10 then (10, (a.spend who).2.setBlk at_ (x.tear i.toNat)) else
          (0, (a.spend who).2.setBlk at_ (x.put i.toNat ⟨1, beside, data⟩))) = r → a.program who at_ i beside data = r := by
        intro r hr
        unfold ArrM.program
        rw [hx]
        simp only
        rw [if_neg g1, if_neg g2, if_neg g3, if_neg (by simpa using g4)]
        exact hr
      have hit : i.toNat = x.next := by omega
      have torn : ∀ (e : Int) (K' : World → Prop), (∀ w7, Keep arrC w γ w7 γ → ArrR w7 γ A ((a.spend who).2.setBlk at_ (x.tear i.toNat)) → K' w7) →
          pCallV P (.func (.func 201) #[] #[ptr vb 0, ptr vi 0]) [] (fun _ => K') w6 := by
        intro e K' hK'
        refine pCallV_of ?_
        refine Program_torn hw6 (by omega) hb6 hb2 ho hc hpg6 hvb6 hvi6 cb ci hlt (by omega) fun w7 hk7 hb7 hpg7 => ?_
        have hk17 : Keep (fun c => (c = 6 ∨ c = 7) ∨ c = 2 ∨ c = 100 + at_.toNat) w1 γ w7 γ := (hk16.mono fun c h => .inl h).trans hk7 fun c h => .inr h
        have hbl7 := hback _ w7 γ (x.tear x.next) _ hk17 (by omega) (by omega) hb7 rfl hpg7
        refine hK' w7 (hk06.trans hk7 fun c hc => by unfold arrC; omega) (ArrR.made h.cn h.cp (hk7.blk hp6 (by rw [h.cp]; omega)) (hd6.keep hk7 (by omega) (by omega)) (hk7.blk hn6 (by rw [h.cn]; omega)) (by rw [hit]; exact hbl7) ?_)
        rw [hit]
        exact (h.ok.spend who).set (BlockM.tear_ok hok hlt)
      have hs1 : (a.spend who).1 = (spendM a.pw a.dr who).1 := rfl
      by_cases e12 : (spendM a.pw a.dr who).1 = 12
      · rw [if_pos e12]
        simp
        have e := hpr _ (by rw [hs1, if_pos e12])
        have := k w6 γ hk06 (by rw [e]; exact ArrR.made h.cn h.cp hp6 hd6 hn6 hbl6 (h.ok.spend who))
        rw [e] at this
        exact this
      rw [if_neg e12]
      by_cases e11 : (spendM a.pw a.dr who).1 = 11
      · rw [if_pos e11]
        refine torn 0 _ fun w7 hk7 hA7 => ?_
        simp
        have e := hpr _ (by rw [hs1, if_neg e12, if_pos e11])
        have := k w7 γ hk7 (by rw [e]; exact hA7)
        rw [e] at this
        exact this
      rw [if_neg e11]
      by_cases e10 : (spendM a.pw a.dr who).1 = 10
      · rw [if_pos e10]
        refine torn 0 _ fun w7 hk7 hA7 => ?_
        simp
        have e := hpr _ (by rw [hs1, if_neg e12, if_neg e11, if_pos e10])
        have := k w7 γ hk7 (by rw [e]; exact hA7)
        rw [e] at this
        exact this
      rw [if_neg e10]
      simp
      refine pDraw_fr (fun w' => Blk w' vb 128 [ptr b o] ∧ Blk w' vi 3 [i64 x.next] ∧ Blk w' b T l) fun w7 hf7 hb7 hs7 => ⟨⟨hb7 _ _ _ hvb6, hb7 _ _ _ hvi6, hb7 _ _ _ hb6⟩, ?_⟩
      refine pHld1 (fun w' h => h.1) lay_128 rfl ?_
      simp
      refine pHld1 (fun w' h => h.2.2) lay_130 hpv0 ?_
      refine pHld1 (fun w' h => h.2.1) lay_3 rfl ?_
      have hbs7 : Bytes w7 bv beside := ((hbs.fr hf05).ch hk56.ch fun b' hb' => by rw [hbc b' hb']; omega).fr hf7
      refine Clone_byte hbs7 (by omega) fun bv' w8 hbs8 hf8 hfresh => ?_
      simp
      refine ⟨⟨hf8.blk (hb7 _ _ _ hvb6) fun h => h, hf8.blk (hb7 _ _ _ hvi6) fun h => h, hf8.blk (hb7 _ _ _ hb6) fun h => h⟩, ?_⟩
      obtain ⟨ba, bc, rfl⟩ := hbs8.2.shape
      simp [buildV_app, fillL, fillA, splice]
      have hf68 : Fr w6 w8 := hf7.trans hf8
      -- the clone is the array's
      have hsz78 : w7.heap.size = w6.heap.size := hs7
      have hk68 : Keep (fun _ => False) w6 γ w8 (γ.fill w6.heap.size w8.heap.size 4) := (hf68.keep hw6).fill (Nat.le_refl _) (Nat.le_refl _)
      generalize hγ' : γ.fill w6.heap.size w8.heap.size 4 = γ' at hk68
      have hpg8 : PagesR w8 γ' (100 + at_.toNat) pv x.pages := hpg6.keep hk68 (fun h => h) fun h => h
      obtain ⟨p, hpi⟩ : ∃ p, x.pages[x.next]? = some p := ⟨x.pages[x.next], List.getElem?_eq_getElem hlt⟩
      obtain ⟨pb, po, pT, pl, bv0, hlv, hpc, hpb, hidx, hpo, hpx, hbs0, hbc0, hback2⟩ := hpg8.at hpi
      rw [hidx _ _ (by simp), pVal_some]
      refine pStN [i64 1, .slice ba beside.length bc, sV data] hpb lay_260 rfl rfl (by omega) rfl fun w9 hc9 hb9 => ?_
      have hb8 : Blk w8 b T l := hk68.blk hb6 fun h => h
      have cb' : ∀ y, y < w6.heap.size → γ' y = γ y := fun y hy => hk68.col y hy
      have hpb2 : pb ≠ b := fun e => by rw [e, cb' b hb6.lt, hb2] at hpc; omega
      have hlv4 : ∀ b', live (.slice ba beside.length bc) = some b' → γ' b' = 4 := fun b' hb' => by
        rw [← hγ']
        exact Col.fill_in (by rw [← hsz78]; exact hfresh b' hb') (hbs8.live_lt hb')
      have hk89 : Keep (fun c => c = 100 + at_.toNat) w8 γ' w9 γ' := hc9.keep hk68.wf fun b' _ he => by rw [he]; exact hpc
      have hpg9 := hback2 _ w9 γ' ⟨1, beside, data⟩ _ _ hk89 (by omega) hb9 rfl (hbs8.ch hc9 fun b' hb' e => by have := hlv4 b' hb'; rw [e, hpc] at this; omega) hlv4
      have hvb9 : Blk w9 vb 128 [ptr b o] := hk89.blk (hk68.blk hvb6 fun h => h) (by rw [cb' vb hvb6.lt, cb]; omega)
      have hvi9 : Blk w9 vi 3 [i64 x.next] := hk89.blk (hk68.blk hvi6 fun h => h) (by rw [cb' vi hvi6.lt, ci]; omega)
      have hb9' : Blk w9 b T l := hk89.blk hb8 (by rw [cb' b hb6.lt, hb2]; omega)
      refine pLd1 hvb9 lay_128 rfl ?_
      refine pLd1 hvi9 lay_3 rfl ?_
      simp
      refine pSt1 hb9' lay_3 rfl rfl (by omega) fun w10 hc10 hb10 => ?_
      rw [wrap_succ (by omega), splice3 (k := 1) (v := i64 ((x.next + 1 : Nat) : Int)) (d := cBk (x.put x.next ⟨1, beside, data⟩, pv)) hc ho (by omega) rfl] at hb10
      have hk910 : Keep (fun c => c = 2) w9 γ' w10 γ' := hc10.keep hk89.wf fun b' _ he => by rw [he, cb' b hb6.lt]; exact hb2
      have hk6 : Keep (fun c => c = 2 ∨ c = 100 + at_.toNat) w6 γ w10 γ' := ((hk68.mono fun c h => h.elim).trans hk89 fun c h => .inr h).trans hk910 fun c h => .inl h
      have hk110 : Keep (fun c => (c = 6 ∨ c = 7) ∨ c = 2 ∨ c = 100 + at_.toNat) w1 γ w10 γ' := (hk16.mono fun c h => .inl h).trans hk6 fun c h => .inr h
      have hbl10 := hback _ w10 γ' (x.put x.next ⟨1, beside, data⟩) _ hk110 (by omega) (by omega) hb10 rfl (hpg9.keep hk910 (by omega) (by omega))
      have e := hpr _ (by rw [hs1, if_neg e12, if_neg e11, if_neg e10])
      have := k w10 γ' (hk06.trans hk6 fun c hc => by unfold arrC; omega) (by
        rw [e, hit]
        exact ArrR.made ((hk6.col _ hn6.lt).trans h.cn) ((hk6.col _ hp6.lt).trans h.cp) (hk6.blk hp6 (by rw [h.cp]; omega)) (hd6.keep hk6 (by omega) (by omega)) (hk6.blk hn6 (by rw [h.cn]; omega)) hbl10
          ((h.ok.spend who).set (BlockM.put_ok hok hlt (by simp only; omega))))
      rw [e] at this
      exact this
    · simp [g4]
      have e : a.program who at_ i beside data = (9, a) := by unfold ArrM.program; rw [hx]; simp only; rw [if_neg g1, if_neg g2, if_neg g3, if_pos g4]
      have := k w5 γ (hf05.keep hw) (by rw [e]; exact hA5)
      rw [e] at this
      exact this
end Go.Al

namespace Go.Al
open Go Go.Proofs
/-- What a page says: an error, what stands beside, its data. -/
def ArrM.read (a : ArrM) (at_ i : Int) : Int × List UInt8 × List UInt8 :=
  match a.blk at_ with
  | none => (5, [], [])
  | some x =>
    if i < 0 ∨ x.pages.length ≤ i then (5, [], []) else
    if a.pw.gone then (12, [], []) else
    match x.pages[i.toNat]? with
    | none => (5, [], [])
    | some p => if p.st = 1 then (0, p.beside, p.data) else if p.st = 2 then (11, [], []) else (6, [], [])
theorem Bytes.nil (w : World) : Bytes w (.slice none 0 0) [] := Sl.nil w cB_len
theorem Nand_Read {w : World} {γ : Col} {A : ArrA} {a : ArrM} {at_ i : Int} {K : Value → World → Prop} (hw : Wf w γ) (h : ArrR w γ A a)
    (k : ∀ w' v, Fr w w' → Bytes w' v (a.read at_ i).2.1 → Fresh w v → K (.tuple #[v, sV (a.read at_ i).2.2, i64 (a.read at_ i).1]) w') :
    pCall P 157 [ptr A.n 0, i64 at_, i64 i] K w := by
  refine c157 ?_
  unfold G157
  have err : ∀ (e : Int) w', Fr w w' → a.read at_ i = (e, [], []) → K (.tuple #[.slice none 0 0, sV [], i64 e]) w' := fun e w' hf he => by
    have := k w' (.slice none 0 0) hf (by rw [he]; exact Bytes.nil w') (Fresh.nil _)
    rw [he] at this
    exact this
  refine h.at2 (fun hn hi => ?_) fun b o x T l pv v h0 h64 hx hxi hb2 hb ho hc hpg h5 h6 hback => ?_
  · simp only [binV_ptr_eql kind_58, pVal_some, pIf_bool, Option.isNone_some, Bool.false_eq_true, if_false]
    refine pJoin1_in ?_
    simp [binV_ptr_eql]
    exact err 5 w (Ch.refl _ _) (by unfold ArrM.read; rw [hn])
  · simp only [binV_ptr_eql kind_58, pVal_some, pIf_bool, Option.isNone_some, Bool.false_eq_true, if_false]
    have hpv0 : l[o]? = some pv := by have := take_at hc (k := 0) (by omega); simpa [cBk] using this
    have hok := h.ok.block x (List.mem_of_getElem? hxi)
    refine join1 (fun v w' => v = .bool (decide (i < 0 ∨ (x.pages.length : Int) ≤ i)) ∧ w' = w) ?_ ?_
    rotate_left
    · intro J hJ
      simp [binV_ptr_eql]
      by_cases g1 : i < 0
      · simp [g1]
        exact hJ _ _ ⟨by simp [g1], rfl⟩
      · simp [g1]
        refine pLd1 hb lay_130 hpv0 ?_
        rw [hpg.len (by simp), pVal_some]
        simp
        exact hJ _ _ ⟨by simp [g1], rfl⟩
    rintro _ w' ⟨rfl, rfl⟩
    rw [pIf_bool]
    by_cases g1 : i < 0 ∨ (x.pages.length : Int) ≤ i
    · simp only [g1, decide_true, if_true]
      exact err 5 w' (Ch.refl _ _) (by unfold ArrM.read; rw [hx]; simp only; rw [if_pos g1])
    simp only [g1, decide_false, Bool.false_eq_true, if_false]
    simp
    refine pLd1 h5 lay_93 rfl ?_
    refine Power_Gone h.power ?_
    by_cases g2 : a.pw.gone = true
    · simp [g2]
      exact err 12 w' (Ch.refl _ _) (by unfold ArrM.read; rw [hx]; simp only; rw [if_neg g1, if_pos g2])
    simp [g2]
    refine pLd1 hb lay_130 hpv0 ?_
    obtain ⟨n, rfl⟩ : ∃ n : Nat, i = n := ⟨i.toNat, by omega⟩
    obtain ⟨p, hpi⟩ : ∃ p, x.pages[n]? = some p := ⟨x.pages[n], List.getElem?_eq_getElem (by omega)⟩
    obtain ⟨pb, po, pT, pl, bv, hlv, hpc, hpb, hidx, hpo, hpx, hbs, hbc, _⟩ := hpg.at hpi
    rw [hidx _ _ (by simp), pVal_some]
    refine pLdN [i64 p.st, bv, sV p.data] hpb lay_260 hpo hpx ?_
    refine pAlloc_of [i64 0, .slice none 0 0, sV []] zero_260 rfl fun pa w1 hpa hpal hf1 h1 => ?_
    refine pStN [i64 p.st, bv, sV p.data] h1 lay_260 rfl rfl (by simp) (by obtain ⟨ba, bc, rfl⟩ := hbs.2.shape; rfl) fun w2 hc2 h2 => ?_
    have h2' : Blk w2 pa 260 [i64 p.st, bv, sV p.data] := h2
    have hf2 : Fr w' w2 := Ch.new hf1 hpa hc2
    simp
    refine pLd1 h2' lay_234 rfl ?_
    simp
    by_cases g3 : p.st = 1
    · simp [g3]
      refine pDraw_fr (fun w' => Blk w' pa 260 [i64 p.st, bv, sV p.data]) fun w3 hf3 hb3 hs3 => ⟨hb3 _ _ _ h2', ?_⟩
      refine pHld1 (fun w' h => h) lay_227 rfl ?_
      refine pHld1 (fun w' h => h) lay_9 rfl ?_
      have hb32 := (hok.2.2 p (List.mem_of_getElem? hpi)).1
      refine Clone_byte ((hbs.fr hf2).fr hf3) (by omega) fun v' w4 hs4 hf4 hfr => ?_
      simp
      refine ⟨hf4.blk (hb3 _ _ _ h2') fun h => h, ?_⟩
      have e : a.read at_ n = (0, p.beside, p.data) := by unfold ArrM.read; rw [hx]; simp only; rw [if_neg g1, if_neg g2]; simp [hpi, g3]
      have := k w4 v' ((hf2.trans hf3).trans hf4) (by rw [e]; exact hs4) (fun c hc => Nat.le_trans (hf2.trans hf3).size (hfr c hc))
      rw [e] at this
      exact this
    · simp [g3]
      by_cases g4 : p.st = 2
      · simp [g4]
        exact err 11 w2 hf2 (by unfold ArrM.read; rw [hx]; simp only; rw [if_neg g1, if_neg g2]; simp [hpi, g4])
      · simp [g4]
        exact err 6 w2 hf2 (by unfold ArrM.read; rw [hx]; simp only; rw [if_neg g1, if_neg g2]; simp [hpi, g3, g4])
def BlockM.all (x : BlockM) (s : Int) : BlockM := { x with pages := x.pages.map fun _ => ⟨s, [], []⟩, next := if s = 0 then 0 else x.pages.length }
theorem step_set {α : Type} {xs : List α} {c : α} {i : Nat} (h : i < xs.length) : ((xs.take i).map (fun _ => c) ++ xs.drop i).set i c = (xs.take (i + 1)).map (fun _ => c) ++ xs.drop (i + 1) := by
  have e : i - ((xs.take i).map (fun _ => c)).length = 0 := by simp; omega
  rw [List.set_append_right _ _ (by simp; omega), e, List.drop_eq_getElem_cons h, List.set_cons_zero, List.take_add_one, List.getElem?_eq_getElem h, List.map_append]
  rw [List.append_assoc]
  rfl
theorem Nand_all {w : World} {γ : Col} {b o c : Nat} {T : TypeId} {l : List Value} {x : BlockM} {pv : Value} {s : Int} {K : Value → World → Prop} (hw : Wf w γ) (hc : 100 ≤ c)
    (hb : Blk w b T l) (h2 : γ b = 2) (ho : o + 4 ≤ l.length) (hx : (l.drop o).take 4 = cBk (x, pv)) (hp : PagesR w γ c pv x.pages) (h16 : x.pages.length ≤ 16)
    (k : ∀ w1, Keep (fun c' => c' = 2 ∨ c' = c) w γ w1 γ → Blk w1 b T (splice l o (cBk (x.all s, pv))) → PagesR w1 γ c pv (x.all s).pages → K (.tuple #[]) w1) :
    pCall P 162 [ptr b o, i64 s] K w := by
  refine c162 ?_
  unfold G162
  have hpv0 : l[o]? = some pv := by have := take_at hx (k := 0) (by omega); simpa [cBk] using this
  simp
  refine pLd1 hb lay_130 hpv0 ?_
  rw [hp.len (by simp), pVal_some]
  refine loop1_up x.pages.length (fun i w' => Keep (fun c' => c' = c) w γ w' γ ∧ PagesR w' γ c pv ((x.pages.take i).map (fun _ => ⟨s, [], []⟩) ++ x.pages.drop i)) ⟨Keep.refl hw, by simpa using hp⟩ ?_
  rintro i w1 ag hag hi ⟨hk1, hp1⟩
  have hb1 : Blk w1 b T l := hk1.blk hb (by rw [h2]; omega)
  simp
  by_cases hlt : i < x.pages.length
  · simp [hlt]
    refine pLd1 hb1 lay_130 hpv0 ?_
    simp [buildV_app, fillL, fillA, splice]
    have hpi : ((x.pages.take i).map (fun _ => (⟨s, [], []⟩ : PageM)) ++ x.pages.drop i)[i]? = some x.pages[i] := by
      rw [List.getElem?_append_right (by simp; omega)]
      simp [Nat.min_eq_left hi, List.getElem?_eq_getElem hlt]
    obtain ⟨pb, po, pT, pl, bv0, hlv, hpc, hpb, hidx, hpo, hpx, hbs0, hbc0, hback2⟩ := hp1.at hpi
    rw [hidx _ _ (by simp), pVal_some]
    refine pStN [i64 s, .slice none 0 0, sV []] hpb lay_260 rfl rfl (by omega) rfl fun w2 hc2 hb2 => ?_
    have hk2 : Keep (fun c' => c' = c) w1 γ w2 γ := hc2.keep hk1.wf fun b' _ he => by rw [he]; exact hpc
    have hp2 := hback2 _ w2 γ ⟨s, [], []⟩ (.slice none 0 0) _ hk2 (by omega) hb2 rfl (Bytes.nil _) (fun b h => by cases h)
    rw [wrap_succ (by omega)]
    refine hag (i + 1) w2 (by omega) (by omega) ⟨hk1.trans hk2 fun c h => h, ?_⟩
    have e : ((x.pages.take i).map (fun _ => (⟨s, [], []⟩ : PageM)) ++ x.pages.drop i).set i ⟨s, [], []⟩ = (x.pages.take (i + 1)).map (fun _ => ⟨s, [], []⟩) ++ x.pages.drop (i + 1) := by
      exact step_set hlt
    rw [← e]
    exact hp2
  · simp [hlt]
    obtain rfl : i = x.pages.length := by omega
    rw [List.take_of_length_le (Nat.le_refl _), List.drop_of_length_le (Nat.le_refl _), List.append_nil] at hp1
    refine pSt1 hb1 lay_3 rfl rfl (by omega) fun w2 hc2 hb2 => ?_
    rw [splice3 (k := 1) (v := i64 0) (d := cBk ({ x with next := 0 }, pv)) hx ho (by omega) rfl] at hb2
    have hk2 : Keep (fun c' => c' = 2) w1 γ w2 γ := hc2.keep hk1.wf fun b' _ he => by rw [he]; exact h2
    have hk12 : Keep (fun c' => c' = 2 ∨ c' = c) w γ w2 γ := (hk1.mono fun c h => .inr h).trans hk2 fun c h => .inl h
    have hp2 := hp1.keep hk2 (by omega) (by omega)
    by_cases hs : s = 0
    · simp [hs]
      refine k w2 hk12 ?_ hp2
      have e : splice l o (cBk (x.all s, pv)) = splice l o (cBk ({ x with next := 0 }, pv)) := by
        congr 1
        simp [cBk, BlockM.all, hs]
      rw [e]
      exact hb2
    · simp [hs]
      have htk := take_splice (l := l) (o := o) (cBk_len ({ x with next := 0 }, pv)) ho
      have hlen2 : o + 4 ≤ (splice l o (cBk ({ x with next := 0 }, pv))).length := by rw [length_splice (by rw [cBk_len]; omega)]; exact ho
      refine pLd1 hb2 lay_130 (by have := take_at htk (k := 0) (by omega); simpa [cBk] using this) ?_
      rw [hp2.len (by simp), pVal_some]
      simp
      refine pSt1 hb2 lay_3 rfl rfl (by omega) fun w3 hc3 hb3 => ?_
      rw [splice3 (k := 1) (v := i64 x.pages.length) (d := cBk ({ x with next := x.pages.length }, pv)) htk hlen2 (by omega) rfl, splice_splice (cBk_len _) (cBk_len _) ho] at hb3
      have hk3 : Keep (fun c' => c' = 2) w2 γ w3 γ := hc3.keep hk2.wf fun b' _ he => by rw [he]; exact h2
      refine k w3 (hk12.trans hk3 fun c h => .inl h) ?_ (hp2.keep hk3 (by omega) (by omega))
      have e : splice l o (cBk (x.all s, pv)) = splice l o (cBk ({ x with next := x.pages.length }, pv)) := by
        congr 1
        simp [cBk, BlockM.all, hs]
      rw [e]
      exact hb3
end Go.Al

namespace Go.Al
open Go Go.Proofs
def ArrM.erase (a : ArrM) (who at_ : Int) : Int × ArrM :=
  match a.blk at_ with
  | none => (5, a)
  | some x =>
    if x.bad then (10, a) else
    if (a.spend who).1 = 12 then (12, (a.spend who).2) else
    if (a.spend who).1 = 11 then (12, (a.spend who).2.setBlk at_ (x.all 2)) else
    if (a.spend who).1 = 10 then (10, (a.spend who).2.setBlk at_ (x.all 2)) else
    (0, (a.spend who).2.setBlk at_ { x.all 0 with erases := IntKind.i64.wrap (x.erases + 1) })
def ArrM.mark (a : ArrM) (at_ : Int) : Int × ArrM :=
  match a.blk at_ with
  | none => (5, a)
  | some x =>
    if at_ < 2 then (1, a) else
    if a.pw.spend.1 ≠ 0 then (12, { a with pw := a.pw.spend.2 }) else
    (0, { a with pw := a.pw.spend.2 }.setBlk at_ { x with bad := true })
theorem BlockM.all_ok {x : BlockM} (h : x.pages.length ≤ 16) (s : Int) : (x.all s).pages.length ≤ 16 ∧ (x.all s).next ≤ (x.all s).pages.length ∧ ∀ q ∈ (x.all s).pages, q.beside.length ≤ 32 ∧ q.data.length ≤ 160 := by
  refine ⟨by simpa [BlockM.all] using h, by simp only [BlockM.all, List.length_map]; split <;> omega, fun q hq => ?_⟩
  obtain ⟨_, _, rfl⟩ := List.mem_map.1 hq
  simp
theorem Erase_torn {w : World} {γ : Col} {b o vb c : Nat} {T : TypeId} {l : List Value} {x : BlockM} {pv : Value} {K : Value → World → Prop} (hw : Wf w γ) (hc : 100 ≤ c)
    (hb : Blk w b T l) (h2 : γ b = 2) (ho : o + 4 ≤ l.length) (hx : (l.drop o).take 4 = cBk (x, pv)) (hp : PagesR w γ c pv x.pages) (h16 : x.pages.length ≤ 16) (h1 : Blk w vb 128 [ptr b o])
    (k : ∀ w1, Keep (fun c' => c' = 2 ∨ c' = c) w γ w1 γ → Blk w1 b T (splice l o (cBk (x.all 2, pv))) → PagesR w1 γ c pv (x.all 2).pages → K (.tuple #[]) w1) :
    pCall P 161 [ptr vb 0] K w := by
  refine c161 ?_
  unfold G161
  refine pLd1 h1 lay_128 rfl ?_
  exact Nand_all hw hc hb h2 ho hx hp h16 k
theorem Nand_Erase {w : World} {γ : Col} {A : ArrA} {a : ArrM} {who at_ : Int} {K : Value → World → Prop} (hw : Wf w γ) (h : ArrR w γ A a)
    (k : ∀ w', Keep arrC w γ w' γ → ArrR w' γ A (a.erase who at_).2 → K (i64 (a.erase who at_).1) w') :
    pCall P 130 [ptr A.n 0, i64 who, i64 at_] K w := by
  refine c130 ?_
  unfold G130
  refine h.at2 (fun hn hi => ?_) fun b o x T l pv v h0 h64 hx hxi hb2 hb ho hc hpg h5 h6 hback => ?_
  · refine pAlloc_of [.pointer none] zero_128 rfl fun vb w2 hvb hvbl hf2 h2 => ?_
    refine pSt1 h2 lay_128 rfl rfl (by simp) fun w3 hc3 h3 => ?_
    have hfr : Fr w w3 := Ch.new hf2 hvb hc3
    simp only [binV_ptr_eql kind_58, pVal_some, pIf_bool, Option.isNone_some, Bool.false_eq_true, if_false]
    refine pLd1 h3 lay_128 rfl ?_
    simp [binV_ptr_eql]
    have e : a.erase who at_ = (5, a) := by unfold ArrM.erase; rw [hn]
    have := k w3 (hfr.keep hw) (by rw [e]; exact h.fr hw hfr)
    rw [e] at this
    exact this
  · refine pAlloc_of [.pointer none] zero_128 rfl fun vb w2 hvb hvbl hf2 h2 => ?_
    refine pSt1 h2 lay_128 rfl rfl (by simp) fun w3 hc3 h3' => ?_
    have h3 : Blk w3 vb 128 [ptr b o] := h3'
    have hf3 : Fr w w3 := Ch.new hf2 hvb hc3
    have hw3 : Wf w3 γ := (hf3.keep (C := arrC) hw).wf
    have cb : γ vb = 0 := hw vb (by omega)
    simp only [binV_ptr_eql kind_58, pVal_some, pIf_bool, Option.isNone_some, Bool.false_eq_true, if_false]
    refine pLd1 h3 lay_128 rfl ?_
    simp only [binV_ptr_eql kind_128, pVal_some, pIf_bool, Option.isNone_some, Bool.false_eq_true, if_false]
    refine pLd1 h3 lay_128 rfl ?_
    simp
    have hb3 := hf3.blk hb fun h => h
    refine pLd1 hb3 lay_4 (by rw [take_at hc (by omega)]; rfl) ?_
    rw [pIf_bool]
    have hA3 := h.fr hw hf3
    have hok := h.ok.block x (List.mem_of_getElem? hxi)
    by_cases g3 : x.bad = true
    · simp only [g3, if_true]
      have e : a.erase who at_ = (10, a) := by unfold ArrM.erase; rw [hx]; simp only; rw [if_pos g3]
      have := k w3 (hf3.keep hw) (by rw [e]; exact hA3)
      rw [e] at this
      exact this
    simp only [g3, if_false]
    have hn3 : Blk w3 A.n 127 (a.g.cells ++ [ptr A.p 0, ptr A.d 0, v]) := hf3.blk h5 fun h => h
    refine Nand_spend hn3 rfl rfl h.cn h.cp hA3.power hA3.draws fun w6 hc6 hp6 hd6 => ?_
    have hk36 : Keep (fun c => c = 6 ∨ c = 7) w3 γ w6 γ := hc6.keep hw3 fun b' _ hb' => by
      rcases hb' with rfl | rfl
      · exact .inl h.cp
      · exact .inr h.draws.col
    have hw6 := hk36.wf
    have hk06 : Keep arrC w γ w6 γ := (hf3.keep hw).trans hk36 fun c hc => by unfold arrC; omega
    have hn6 : Blk w6 A.n 127 (a.g.cells ++ [ptr A.p 0, ptr A.d 0, v]) := hk36.blk hn3 (by rw [h.cn]; omega)
    have hkw6 : Keep (fun c => c = 6 ∨ c = 7) w γ w6 γ := (hf3.keep hw).trans hk36 fun c h => h
    have hbl6 : BlocksR w6 γ v a.bl := h6.keep hkw6 (by omega) (by omega) (by omega)
    have hb6 : Blk w6 b T l := hkw6.blk hb (by rw [hb2]; omega)
    have hpg6 : PagesR w6 γ (100 + at_.toNat) pv x.pages := hpg.keep hkw6 (by omega) (by omega)
    have hvb6 : Blk w6 vb 128 [ptr b o] := hk36.blk h3 (by rw [cb]; omega)
    have hpr : ∀ r, (if (a.spend who).1 = 12 then (12, (a.spend who).2) else
          if (a.spend who).1 = 11 then (12, (a.spend who).2.setBlk at_ (x.all 2)) else
          if (a.spend who).1 = 10 then (10, (a.spend who).2.setBlk at_ (x.all 2)) else
          (0, (a.spend who).2.setBlk at_ { x.all 0 with erases := IntKind.i64.wrap (x.erases + 1) })) = r → a.erase who at_ = r := by
      intro r hr
      unfold ArrM.erase
      rw [hx]
      simp only
      rw [if_neg g3]
      exact hr
    have all : ∀ (x' : BlockM) w7 l7, Keep (fun c' => c' = 2 ∨ c' = 100 + at_.toNat) w6 γ w7 γ → Blk w7 b T l7 → l7 = splice l o (cBk (x', pv)) → PagesR w7 γ (100 + at_.toNat) pv x'.pages →
        (x'.pages.length ≤ 16 ∧ x'.next ≤ x'.pages.length ∧ ∀ p ∈ x'.pages, p.beside.length ≤ 32 ∧ p.data.length ≤ 160) → Keep arrC w γ w7 γ ∧ ArrR w7 γ A ((a.spend who).2.setBlk at_ x') := by
      intro x' w7 l7 hk7 hb7 hl7 hpg7 hok7
      have hk17 : Keep (fun c => (c = 6 ∨ c = 7) ∨ c = 2 ∨ c = 100 + at_.toNat) w γ w7 γ := (hkw6.mono fun c h => .inl h).trans hk7 fun c h => .inr h
      have hbl7 := hback _ w7 γ x' _ hk17 (by omega) (by omega) hb7 hl7 hpg7
      exact ⟨hk06.trans hk7 fun c hc => by unfold arrC; omega, ArrR.made h.cn h.cp (hk7.blk hp6 (by rw [h.cp]; omega)) (hd6.keep hk7 (by omega) (by omega)) (hk7.blk hn6 (by rw [h.cn]; omega)) hbl7 ((h.ok.spend who).set hok7)⟩
    have torn : ∀ (K' : World → Prop), (∀ w7, Keep arrC w γ w7 γ → ArrR w7 γ A ((a.spend who).2.setBlk at_ (x.all 2)) → K' w7) →
        pCallV P (.func (.func 161) #[] #[ptr vb 0]) [] (fun _ => K') w6 := by
      intro K' hK'
      refine pCallV_of ?_
      refine Erase_torn hw6 (by omega) hb6 hb2 ho hc hpg6 hok.1 hvb6 fun w7 hk7 hb7 hpg7 => ?_
      obtain ⟨r1, r2⟩ := all (x.all 2) w7 _ hk7 hb7 rfl hpg7 (BlockM.all_ok hok.1 2)
      exact hK' w7 r1 r2
    have hs1 : (a.spend who).1 = (spendM a.pw a.dr who).1 := rfl
    by_cases e12 : (spendM a.pw a.dr who).1 = 12
    · rw [if_pos e12]
      simp
      have e := hpr _ (by rw [hs1, if_pos e12])
      have := k w6 hk06 (by rw [e]; exact ArrR.made h.cn h.cp hp6 hd6 hn6 hbl6 (h.ok.spend who))
      rw [e] at this
      exact this
    rw [if_neg e12]
    by_cases e11 : (spendM a.pw a.dr who).1 = 11
    · rw [if_pos e11]
      refine torn _ fun w7 hk7 hA7 => ?_
      simp
      have e := hpr _ (by rw [hs1, if_neg e12, if_pos e11])
      have := k w7 hk7 (by rw [e]; exact hA7)
      rw [e] at this
      exact this
    rw [if_neg e11]
    by_cases e10 : (spendM a.pw a.dr who).1 = 10
    · rw [if_pos e10]
      refine torn _ fun w7 hk7 hA7 => ?_
      simp
      have e := hpr _ (by rw [hs1, if_neg e12, if_neg e11, if_pos e10])
      have := k w7 hk7 (by rw [e]; exact hA7)
      rw [e] at this
      exact this
    rw [if_neg e10]
    simp
    refine pLd1 hvb6 lay_128 rfl ?_
    refine Nand_all hw6 (by omega) hb6 hb2 ho hc hpg6 hok.1 fun w7 hk7 hb7 hpg7 => ?_
    have hvb7 : Blk w7 vb 128 [ptr b o] := hk7.blk hvb6 (by rw [cb]; omega)
    refine pLd1 hvb7 lay_128 rfl ?_
    simp
    have htk := take_splice (l := l) (o := o) (cBk_len (x.all 0, pv)) ho
    have hlen2 : o + 4 ≤ (splice l o (cBk (x.all 0, pv))).length := by rw [length_splice (by rw [cBk_len]; omega)]; exact ho
    refine pLd1 hb7 lay_3 (v := i64 x.erases) (by rw [take_at htk (by omega)]; rfl) ?_
    simp
    refine pSt1 hb7 lay_3 rfl rfl (by omega) fun w8 hc8 hb8 => ?_
    rw [splice3 (k := 3) (d := cBk ({ x.all 0 with erases := IntKind.i64.wrap (x.erases + 1) }, pv)) htk hlen2 (by omega) rfl, splice_splice (cBk_len _) (cBk_len _) ho] at hb8
    have hk8 : Keep (fun c' => c' = 2) w7 γ w8 γ := hc8.keep hk7.wf fun b' _ he => by rw [he]; exact hb2
    obtain ⟨r1, r2⟩ := all { x.all 0 with erases := IntKind.i64.wrap (x.erases + 1) } w8 _ (hk7.trans hk8 fun c h => .inl h) hb8 rfl (hpg7.keep hk8 (by omega) (by omega)) (BlockM.all_ok hok.1 0)
    have e := hpr _ (by rw [hs1, if_neg e12, if_neg e11, if_neg e10])
    have := k w8 r1 (by rw [e]; exact r2)
    rw [e] at this
    exact this
theorem Nand_Mark {w : World} {γ : Col} {A : ArrA} {a : ArrM} {at_ : Int} {K : Value → World → Prop} (hw : Wf w γ) (h : ArrR w γ A a)
    (k : ∀ w', Keep arrC w γ w' γ → ArrR w' γ A (a.mark at_).2 → K (i64 (a.mark at_).1) w') :
    pCall P 242 [ptr A.n 0, i64 at_] K w := by
  refine c242 ?_
  unfold G242
  refine h.at2 (fun hn hi => ?_) fun b o x T l pv v h0 h64 hx hxi hb2 hb ho hc hpg h5 h6 hback => ?_
  · simp [binV_ptr_eql]
    have e : a.mark at_ = (5, a) := by unfold ArrM.mark; rw [hn]
    have := k w (Keep.refl hw) (by rw [e]; exact h)
    rw [e] at this
    exact this
  · simp [binV_ptr_eql]
    by_cases g1 : at_ < 2
    · simp [g1]
      have e : a.mark at_ = (1, a) := by unfold ArrM.mark; rw [hx]; simp only; rw [if_pos g1]
      have := k w (Keep.refl hw) (by rw [e]; exact h)
      rw [e] at this
      exact this
    simp [g1]
    refine pLd1 h5 lay_93 rfl ?_
    refine Power_Spend h.power fun w1 hc1 hp1 => ?_
    have hk1 : Keep (fun c => c = 6) w γ w1 γ := hc1.keep hw fun b' _ he => by rw [he]; exact h.cp
    have hn1 : Blk w1 A.n 127 (a.g.cells ++ [ptr A.p 0, ptr A.d 0, v]) := hk1.blk h5 (by rw [h.cn]; omega)
    have hd1 := h.draws.keep hk1 (by omega) (by omega)
    by_cases g2 : a.pw.spend.1 = 0
    · simp [g2]
      have hb1 := hk1.blk hb (by rw [hb2]; omega)
      refine pSt1 hb1 lay_4 rfl rfl (by omega) fun w2 hc2 hb2' => ?_
      rw [splice3 (k := 2) (d := cBk ({ x with bad := true }, pv)) hc ho (by omega) rfl] at hb2'
      have hk2 : Keep (fun c => c = 2) w1 γ w2 γ := hc2.keep hk1.wf fun b' _ he => by rw [he]; exact hb2
      have hk12 : Keep (fun c => c = 6 ∨ c = 2) w γ w2 γ := (hk1.mono fun c h => .inl h).trans hk2 fun c h => .inr h
      have hbl2 := hback _ w2 γ { x with bad := true } _ hk12 (by omega) (by omega) hb2' rfl (hpg.keep hk12 (by omega) (by omega))
      have e : a.mark at_ = (0, { a with pw := a.pw.spend.2 }.setBlk at_ { x with bad := true }) := by unfold ArrM.mark; rw [hx]; simp only; rw [if_neg g1, if_neg (by simpa using g2)]
      have := k w2 (hk12.mono fun c h => by unfold arrC; omega) (by
        rw [e]
        exact ArrR.made h.cn h.cp (hk2.blk hp1 (by rw [h.cp]; omega)) (hd1.keep hk2 (by omega) (by omega)) (hk2.blk hn1 (by rw [h.cn]; omega)) hbl2 (ArrM.ok.set (a := { a with pw := a.pw.spend.2 }) (i := at_) (x := { x with bad := true }) ⟨h.ok.blocks, h.ok.block⟩ (h.ok.block x (List.mem_of_getElem? hxi))))
      rw [e] at this
      exact this
    · simp [g2]
      have e : a.mark at_ = (12, { a with pw := a.pw.spend.2 }) := by unfold ArrM.mark; rw [hx]; simp only; rw [if_neg g1, if_pos g2]
      have := k w1 (hk1.mono fun c h => by unfold arrC; omega) (by
        rw [e]
        exact ArrR.made h.cn h.cp hp1 hd1 hn1 (h6.keep hk1 (by omega) (by omega) (by omega)) ⟨h.ok.blocks, h.ok.block⟩)
      rw [e] at this
      exact this
end Go.Al

namespace Go.Al
open Go Go.Proofs
def Geo.check (g : Geo) : Int :=
  if g.channels < 1 ∨ g.dies < 1 ∨ g.blocks < 1 ∨ g.pages < 2 then 1 else
  if 64 < g.channels ∨ 64 < g.dies ∨ 64 < g.blocks ∨ 16 < g.pages then 4 else
  if g.channels * g.dies * g.blocks ≤ 2 then 1 else
  if 64 < g.channels * g.dies * g.blocks then 4 else 0
theorem Geo.small {g : Geo} (h1 : ¬ (g.channels < 1 ∨ g.dies < 1 ∨ g.blocks < 1 ∨ g.pages < 2)) (h2 : ¬ (64 < g.channels ∨ 64 < g.dies ∨ 64 < g.blocks ∨ 16 < g.pages)) :
    IntKind.i64.wrap (g.channels * g.dies) = g.channels * g.dies ∧ IntKind.i64.wrap (g.channels * g.dies * g.blocks) = g.channels * g.dies * g.blocks := by
  have a1 : 0 ≤ g.channels * g.dies := Int.mul_nonneg (by omega) (by omega)
  have a2 : g.channels * g.dies ≤ 64 * 64 := Int.mul_le_mul (by omega) (by omega) (by omega) (by omega)
  have a3 : 0 ≤ g.channels * g.dies * g.blocks := Int.mul_nonneg a1 (by omega)
  have a4 : g.channels * g.dies * g.blocks ≤ 64 * 64 * 64 := Int.mul_le_mul a2 (by omega) (by omega) (by omega)
  exact ⟨wrap_in (by omega) (by omega), wrap_in (by omega) (by omega)⟩
theorem Geom_Check {w : World} {g : Geo} {K : Value → World → Prop} (k : ∀ w', Fr w w' → K (i64 g.check) w') : pCall P 110 [g.val] K w := by
  refine c110 ?_
  unfold G110
  refine pNew_of g.cells (by rfl) fun b w1 hb hbl hf h1 => ?_
  have k' := k w1 hf
  simp
  refine pLd1 h1 lay_3 rfl ?_
  refine pLd1 h1 lay_3 rfl ?_
  refine pLd1 h1 lay_3 rfl ?_
  simp
  refine pLd1 h1 lay_3 rfl ?_
  refine pLd1 h1 lay_3 rfl ?_
  refine pLd1 h1 lay_3 rfl ?_
  simp
  generalize hmin : (if g.blocks < if g.dies < g.channels then g.dies else g.channels then g.blocks else if g.dies < g.channels then g.dies else g.channels) = mn
  generalize hmax : (if (if g.channels < g.dies then g.dies else g.channels) < g.blocks then g.blocks else if g.channels < g.dies then g.dies else g.channels) = mx
  have e1 : mn < 1 ↔ g.channels < 1 ∨ g.dies < 1 ∨ g.blocks < 1 := by rw [← hmin]; split <;> split at * <;> omega
  have e2 : 64 < mx ↔ 64 < g.channels ∨ 64 < g.dies ∨ 64 < g.blocks := by rw [← hmax]; split <;> split at * <;> omega
  clear hmin hmax
  refine join0 (fun w' => w' = w1 ∧ ¬ (g.channels < 1 ∨ g.dies < 1 ∨ g.blocks < 1 ∨ g.pages < 2) ∧ ¬ (64 < g.channels ∨ 64 < g.dies ∨ 64 < g.blocks ∨ 16 < g.pages)) ?_ ?_
  · rintro _ ⟨rfl, n1, n2⟩
    obtain ⟨s1, s2⟩ := Geo.small n1 n2
    refine pLd1 h1 lay_3 rfl ?_
    refine pLd1 h1 lay_3 rfl ?_
    simp only [s1, binV_mul, pVal_some]
    refine pLd1 h1 lay_3 rfl ?_
    simp [s2]
    unfold Geo.check at k'
    rw [if_neg n1, if_neg n2] at k'
    split
    · rename_i h; rw [if_pos h] at k'; exact k'
    · rename_i h; rw [if_neg h] at k'
      split
      · rename_i h; rw [if_pos h] at k'; exact k'
      · rename_i h; rw [if_neg h] at k'; exact k'
  · intro J hJ
    refine join1 (fun v w' => v = .bool (decide (g.channels < 1 ∨ g.dies < 1 ∨ g.blocks < 1 ∨ g.pages < 2)) ∧ w' = w1) ?_ ?_
    · rintro _ _ ⟨rfl, rfl⟩
      rw [pIf_bool]
      by_cases n1 : (g.channels < 1 ∨ g.dies < 1 ∨ g.blocks < 1 ∨ g.pages < 2)
      · simp only [n1, decide_true, if_true]
        unfold Geo.check at k'; rw [if_pos n1] at k'; exact k'
      simp only [n1, decide_false, Bool.false_eq_true, if_false, pGuard_false]
      by_cases g2 : 64 < mx
      · simp [g2]
        have g2' := e2.1 g2
        unfold Geo.check at k'; rw [if_neg n1, if_pos (by omega)] at k'; exact k'
      · simp [g2]
        refine pLd1 h1 lay_3 rfl ?_
        simp
        split
        · rename_i h
          unfold Geo.check at k'; rw [if_neg n1, if_pos (by omega)] at k'; exact k'
        · rename_i h
          exact hJ _ ⟨rfl, n1, by have := mt e2.2 g2; omega⟩
    · intro J2 hJ2
      simp
      by_cases g1 : mn < 1
      · simp [g1]
        exact hJ2 _ _ ⟨by have := e1.1 g1; simp; omega, rfl⟩
      · simp [g1]
        refine pLd1 h1 lay_3 rfl ?_
        simp
        have g1' := mt e1.2 g1
        refine hJ2 _ _ ⟨?_, rfl⟩
        congr 1
        by_cases g3 : g.pages < 2
        · simp [g3]
        · simp [g3]; omega
def Geo.count (g : Geo) : Int := if g.check = 0 then g.channels * g.dies * g.blocks else 0
theorem Geo.check_ok {g : Geo} (h : g.check = 0) : ¬ (g.channels < 1 ∨ g.dies < 1 ∨ g.blocks < 1 ∨ g.pages < 2) ∧ ¬ (64 < g.channels ∨ 64 < g.dies ∨ 64 < g.blocks ∨ 16 < g.pages) ∧ 2 < g.channels * g.dies * g.blocks ∧ g.channels * g.dies * g.blocks ≤ 64 := by
  unfold Geo.check at h
  split at h
  · cases h
  · split at h
    · cases h
    · split at h
      · cases h
      · split at h
        · cases h
        · rename_i a b c d
          exact ⟨a, b, by omega, by omega⟩
theorem Geom_Blocks {w : World} {g : Geo} {K : Value → World → Prop} (k : ∀ w', Fr w w' → K (i64 g.count) w') : pCall P 111 [g.val] K w := by
  refine c111 ?_
  unfold G111
  refine pNew_of g.cells (by rfl) fun b w1 hb hbl hf h1 => ?_
  refine pLdN g.cells h1 lay_23 (by simp [Geo.cells]) (by rfl) ?_
  refine Geom_Check fun w2 hf2 => ?_
  have k' := k w2 (hf.trans hf2)
  have h2 := hf2.blk h1 fun h => h
  unfold Geo.count at k'
  by_cases hc : g.check = 0
  · simp [hc]
    rw [if_pos hc] at k'
    obtain ⟨n1, n2, _, _⟩ := Geo.check_ok hc
    obtain ⟨s1, s2⟩ := Geo.small n1 n2
    refine pLd1 h2 lay_3 rfl ?_
    refine pLd1 h2 lay_3 rfl ?_
    simp only [s1, binV_mul, pVal_some]
    refine pLd1 h2 lay_3 rfl ?_
    simp [s2]
    exact k'
  · simp [hc]
    rw [if_neg hc] at k'
    exact k'
def ruleCheck (size spare : Int) : Int := if size < 1 ∨ 64 < size ∨ spare < 0 ∨ 8 < spare then 5 else 0
def rulePaged (pages : Int) : Bool := decide (2 ≤ pages ∧ pages ≤ 16)
def ruleData (size pages : Int) : Int := if ruleCheck size 0 ≠ 0 ∨ rulePaged pages = false then 0 else size.tdiv pages + 2
def ruleTotal (size spare pages : Int) : Int := if ruleCheck size spare ≠ 0 ∨ rulePaged pages = false then 0 else ruleData size pages + spare
theorem Rule_Check {w : World} {size spare : Int} {K : Value → World → Prop} (k : K (i64 (ruleCheck size spare)) w) : pCall P 123 [i64 size, i64 spare] K w := by
  refine c123 ?_
  unfold G123
  simp
  unfold ruleCheck at k
  by_cases h1 : size < 1
  · simp [h1] at k ⊢; exact k
  by_cases h2 : 64 < size
  · simp [h1, h2] at k ⊢; exact k
  by_cases h3 : spare < 0
  · simp [h1, h2, h3] at k ⊢; exact k
  by_cases h4 : 8 < spare
  · simp [h1, h2, h3, h4] at k ⊢; exact k
  simp [h1, h2, h3, h4] at k ⊢; exact k
theorem Rule_paged {w : World} {pages : Int} {K : Value → World → Prop} (k : K (.bool (rulePaged pages)) w) : pCall P 127 [i64 pages] K w := by
  refine c127 ?_
  unfold G127
  simp
  unfold rulePaged at k
  by_cases h1 : 2 ≤ pages
  · simp [h1] at k ⊢; exact k
  · simp [h1] at k ⊢; exact k
theorem Rule_Data {w : World} {size pages : Int} {K : Value → World → Prop} (k : K (i64 (ruleData size pages)) w) : pCall P 128 [i64 size, i64 pages] K w := by
  refine c128 ?_
  unfold G128
  unfold ruleData at k
  refine join0 (fun w' => w' = w ∧ ruleCheck size 0 = 0 ∧ rulePaged pages = true) ?_ ?_
  · rintro _ ⟨rfl, h1, h2⟩
    simp [h1, h2] at k
    have hp : 2 ≤ pages ∧ pages ≤ 16 := by simpa [rulePaged] using h2
    have hs : ¬ (size < 1 ∨ 64 < size) := by unfold ruleCheck at h1; split at h1; cases h1; omega
    rw [binV_quo _ _ _ _ (by omega)]
    have h3 : 0 ≤ size.tdiv pages := Int.tdiv_nonneg (by omega) (by omega)
    have h4 : size.tdiv pages ≤ size := by rw [Int.tdiv_eq_ediv_of_nonneg (by omega)]; exact Int.ediv_le_self _ (by omega)
    simp
    rw [wrap_in (x := size.tdiv pages) (by omega) (by omega), wrap_in (by omega) (by omega)]
    exact k
  · intro J hJ
    refine Rule_Check ?_
    simp
    by_cases h1 : ruleCheck size 0 = 0
    · simp [h1]
      refine Rule_paged ?_
      simp
      by_cases h2 : rulePaged pages = true
      · simp [h2]; exact hJ _ ⟨rfl, h1, h2⟩
      · simp [h2]; simp [h1, h2] at k; exact k
    · simp [h1]; simp [h1] at k; exact k
theorem ruleData_le (size pages : Int) : 0 ≤ ruleData size pages ∧ ruleData size pages ≤ 66 := by
  unfold ruleData
  split
  · omega
  · rename_i h
    have hs : ¬ (size < 1 ∨ 64 < size) := by
      have h1 : ruleCheck size 0 = 0 := by omega
      unfold ruleCheck at h1; split at h1; cases h1; omega
    have hp : 2 ≤ pages ∧ pages ≤ 16 := by
      have : rulePaged pages = true := by cases hq : rulePaged pages; exact absurd (.inr hq) h; rfl
      simpa [rulePaged] using this
    have h3 : 0 ≤ size.tdiv pages := Int.tdiv_nonneg (by omega) (by omega)
    have h4 : size.tdiv pages ≤ size := by rw [Int.tdiv_eq_ediv_of_nonneg (by omega)]; exact Int.ediv_le_self _ (by omega)
    omega
theorem Rule_Total {w : World} {size spare pages : Int} {K : Value → World → Prop} (k : K (i64 (ruleTotal size spare pages)) w) : pCall P 65 [i64 size, i64 spare, i64 pages] K w := by
  refine c65 ?_
  unfold G65
  unfold ruleTotal at k
  refine join0 (fun w' => w' = w ∧ ruleCheck size spare = 0 ∧ rulePaged pages = true) ?_ ?_
  · rintro _ ⟨rfl, h1, h2⟩
    simp [h1, h2] at k
    refine Rule_Data ?_
    have := ruleData_le size pages
    have hs : ¬ (spare < 0 ∨ 8 < spare) := by unfold ruleCheck at h1; split at h1; cases h1; omega
    simp
    rw [wrap_in (by omega) (by omega)]
    exact k
  · intro J hJ
    refine Rule_Check ?_
    simp
    by_cases h1 : ruleCheck size spare = 0
    · simp [h1]
      refine Rule_paged ?_
      simp
      by_cases h2 : rulePaged pages = true
      · simp [h2]; exact hJ _ ⟨rfl, h1, h2⟩
      · simp [h2]; simp [h1, h2] at k; exact k
    · simp [h1]; simp [h1] at k; exact k
end Go.Al

namespace Go.Al
open Go Go.Proofs
def PageM.blank : PageM := ⟨0, [], []⟩
def BlockM.fresh (pages : Nat) : BlockM := ⟨List.replicate pages PageM.blank, 0, false, 0⟩
def BlockM.none : BlockM := ⟨[], 0, false, 0⟩
def markOne (bl : List BlockM) (m : Int) : List BlockM := match bl[m.toNat]? with
  | some x => bl.set m.toNat { x with bad := true }
  | Option.none => bl
def markAll (bl : List BlockM) (ms : List Int) : List BlockM := ms.foldl markOne bl
def ArrM.make (g : Geo) (pw : PowerM) (dr : DrawsM) (marked : List Int) : Int × ArrM :=
  if g.check ≠ 0 then (g.check, ⟨pw, dr, g, []⟩) else
  if marked.any (fun i => decide (i < 2 ∨ g.count ≤ i)) then (5, ⟨pw, dr, g, []⟩) else
  (0, ⟨pw, dr, g, markAll (List.replicate g.count.toNat (BlockM.fresh g.pages.toNat)) marked⟩)
theorem markAll_length (ms : List Int) : ∀ bl : List BlockM, (markAll bl ms).length = bl.length := by
  induction ms with
  | nil => intro bl; rfl
  | cons m ms ih =>
    intro bl
    show (markAll (markOne bl m) ms).length = _
    rw [ih]
    unfold markOne
    split <;> simp
theorem PagesR.nil {w : World} {γ : Col} {c : Nat} : PagesR w γ c (.slice none 0 0) [] := ⟨[], rfl, Sl.nil w cP_len, fun b h => (by cases h), fun y h => (by cases h)⟩
theorem sli_blocks : sliP P 125 = some (132, 4, 48) := by kernel_rfl
theorem sli_pages : sliP P 130 = some (260, 3, 48) := by kernel_rfl
theorem set_rep {α : Type} {a b : α} {i n : Nat} (h : i < n) : (List.replicate i a ++ List.replicate (n - i) b).set i a = List.replicate (i + 1) a ++ List.replicate (n - (i + 1)) b := by
  rw [List.set_append_right _ _ (by simp)]
  obtain ⟨k, hk⟩ : ∃ k, n - i = k + 1 := ⟨n - i - 1, by omega⟩
  have hk2 : n - (i + 1) = k := by omega
  rw [hk, hk2, List.length_replicate, Nat.sub_self, List.replicate_succ, List.set_cons_zero, List.replicate_succ', List.append_assoc]
  rfl
theorem Nand_New {w : World} {γ : Col} {p d : Nat} {g : Geo} {pw : PowerM} {dr : DrawsM} {mv : Value} {marked : List Int} {K : Value → World → Prop} (hw : Wf w γ)
    (hp : PowerR w p pw) (cp : γ p = 6) (hd : DrawsR w γ d dr) (hm : Ints w mv marked) (hmc : ∀ b, live mv = some b → γ b = 0) (h63 : marked.length ≤ 1000000000)
    (k0 : ∀ w', Fr w w' → (ArrM.make g pw dr marked).1 ≠ 0 → K (.tuple #[.pointer none, i64 (ArrM.make g pw dr marked).1]) w')
    (k : ∀ w' γ' n, Keep (fun _ => False) w γ w' γ' → w.heap.size ≤ n → ArrR w' γ' ⟨n, p, d⟩ (ArrM.make g pw dr marked).2 → (ArrM.make g pw dr marked).1 = 0 → K (.tuple #[ptr n 0, i64 0]) w') :
    pCall P 52 [g.val, ptr p 0, ptr d 0, mv] K w := by
  refine c52 ?_
  unfold G52
  refine pNew_of g.cells (by rfl) fun gb w1 hgb hgbl hf1 h1 => ?_
  refine pLdN g.cells h1 lay_23 (by simp [Geo.cells]) (by rfl) ?_
  refine Geom_Check fun w2 hf2 => ?_
  have hf02 := hf1.trans hf2
  by_cases hc : g.check = 0
  rotate_left
  · simp [hc]
    have e : ArrM.make g pw dr marked = (g.check, ⟨pw, dr, g, []⟩) := by unfold ArrM.make; rw [if_pos hc]
    have := k0 w2 hf02 (by rw [e]; exact hc)
    rw [e] at this
    exact this
  simp [hc]
  refine pJoin0_in ?_
  simp [binV_ptr_eql]
  obtain ⟨n1, n2, n3, n4⟩ := Geo.check_ok hc
  have hcnt : g.count = g.channels * g.dies * g.blocks := by unfold Geo.count; rw [if_pos hc]
  obtain ⟨N, hN⟩ : ∃ N : Nat, g.count = N := ⟨g.count.toNat, by omega⟩
  obtain ⟨M, hM⟩ : ∃ M : Nat, g.pages = M := ⟨g.pages.toNat, by omega⟩
  refine pDraw_fr (fun w' => Blk w' gb 23 g.cells) fun w3 hf3 hb3 hs3 => ⟨hb3 _ _ _ (hf2.blk h1 fun h => h), ?_⟩
  refine pHldN g.cells (fun w' h => h) lay_23 (by simp [Geo.cells]) (by rfl) ?_
  refine pHldN g.cells (fun w' h => h) lay_23 (by simp [Geo.cells]) (by rfl) ?_
  refine Geom_Blocks fun w4 hf4 => ?_
  have hg4 : Blk w4 gb 23 g.cells := hf4.blk (hb3 _ _ _ (hf2.blk h1 fun h => h)) fun h => h
  rw [hN]
  rw [pKeep_true]
  refine ⟨hg4, ?_⟩
  have hf04 : Fr w w4 := (hf02.trans hf3).trans hf4
  refine pMake (f := cBk) (x := (BlockM.none, .slice none 0 0)) sli_blocks zero_132 cBk_len rfl (by omega) (by omega) (by omega) fun bv w5 bb hbv hf5 hbl hbb => ?_
  rw [pKeep_true]
  refine ⟨hf5.blk hg4 fun h => h, ?_⟩
  simp [buildV_app, fillL, fillA, splice, Geo.val, Geo.cells, hbv.cells]
  have hrep : (List.replicate N (BlockM.none, Value.slice none 0 0)).length = N := by simp
  refine pNew_of [i64 g.channels, i64 g.dies, i64 g.blocks, i64 g.pages, ptr p 0, ptr d 0, bv] (by simp) fun n w6 hn hnl hf6 h6 => ?_
  have hf05 := hf04.trans hf5
  have hf06 := hf05.trans hf6
  simp
  refine ⟨hf6.blk (hf5.blk hg4 fun h => h) fun h => h, ?_⟩
  refine pLd1 h6 lay_125 rfl ?_
  rw [(hbv.fr hf6).len (by simp), pVal_some, hrep]
  have hn0 : w.heap.size ≤ n := by rw [hn]; exact hf05.size
  have hbb0 : ∀ b, live bv = some b → w4.heap.size ≤ b := fun b hb => by
    rcases hbl with h | h
    · rw [h] at hb; cases hb
    · rw [h] at hb; cases hb; exact hbb
  have hbb1 : ∀ b, live bv = some b → w.heap.size ≤ b := fun b hb => Nat.le_trans hf04.size (hbb0 b hb)
  have cg : γ gb = 0 := hw gb (by omega)
  have hgb4 : gb < w4.heap.size := hg4.lt
  have hs45 := hf5.size
  refine loop1_up N (fun i w' => ∃ γ', Keep (fun _ => False) w γ w' γ' ∧ γ' n = 1 ∧ Blk w' n 127 [i64 g.channels, i64 g.dies, i64 g.blocks, i64 g.pages, ptr p 0, ptr d 0, bv] ∧ Blk w' gb 23 g.cells ∧ γ' gb = 0 ∧
    BlocksR w' γ' bv (List.replicate i (BlockM.fresh M) ++ List.replicate (N - i) BlockM.none)) ?_ ?_
  · refine ⟨(γ.fill w4.heap.size w5.heap.size 2).paint n 1, ((hf06.keep hw).fill hf04.size hf6.size).paint hn0 hnl, Col.paint_same, h6, hf6.blk (hf5.blk hg4 fun h => h) fun h => h, ?_, List.replicate N (BlockM.none, .slice none 0 0), ?_, hbv.fr hf6, ?_, ?_⟩
    · rw [Col.paint_other (by omega), Col.fill_out hgb4]; exact cg
    · simp
    · intro b hb
      have := hbv.live_lt hb
      rw [Col.paint_other (by omega), Col.fill_in (hbb0 b hb) this]
    · intro i x hx
      rw [List.eq_of_mem_replicate (List.mem_of_getElem? hx)]
      exact PagesR.nil
  rintro i w7 ag hag hi ⟨γ7, hk7, c7, hn7, hg7, cg7, hbl7⟩
  simp
  by_cases hlt : i < N
  · simp [hlt]
    refine pDraw_fr (fun w' => Blk w' n 127 [i64 g.channels, i64 g.dies, i64 g.blocks, i64 g.pages, ptr p 0, ptr d 0, bv] ∧ Blk w' gb 23 g.cells) fun w8 hf8 hb8 hs8 => ⟨⟨hb8 _ _ _ hn7, hb8 _ _ _ hg7⟩, ?_⟩
    refine pHld1 (fun w' h => h.1) lay_125 rfl ?_
    refine pHld1 (fun w' h => h.2) lay_3 (v := i64 M) (by rw [← hM]; rfl) ?_
    refine pMake (f := cP) (x := (PageM.blank, .slice none 0 0)) sli_pages zero_260 cP_len rfl (by omega) (by omega) (by omega) fun pv w9 pb hpv hf9 hpl hpb => ?_
    simp
    refine ⟨⟨hf9.blk (hb8 _ _ _ hn7) fun h => h, hf9.blk (hb8 _ _ _ hg7) fun h => h⟩, ?_⟩
    have hf79 := hf8.trans hf9
    have hk79 : Keep (fun _ => False) w7 γ7 w9 (γ7.fill w8.heap.size w9.heap.size (100 + i)) := (hf79.keep hk7.wf).fill hf8.size (Nat.le_refl _)
    generalize hγ9 : γ7.fill w8.heap.size w9.heap.size (100 + i) = γ9 at hk79
    have hbl9 := hbl7.keep hk79 (fun h => h) (fun h => h) fun _ h => h
    obtain ⟨b, o, T, l, pv0, ⟨hb2, hlvb⟩, hb, hidx, ho, hcs, _, hback⟩ := hbl9.at (i := i) (x := BlockM.none) (by
      rw [List.getElem?_append_right (by simp), List.length_replicate, Nat.sub_self, List.getElem?_replicate, if_pos (by omega)])
    rw [hidx _ _ (by simp), pVal_some]
    simp
    refine pSt1 hb lay_130 hpv.cell1 hpv.one (by omega) fun w10 hc10 hb10 => ?_
    have es := splice3 (k := 0) (v := pv) (d := cBk (BlockM.none, pv)) hcs ho (by omega) rfl
    simp only [Nat.add_zero] at es
    rw [es] at hb10
    have hcol : ∀ c, live pv = some c → γ9 c = 100 + i := fun c hc => by
      have hlt9 := hpv.live_lt hc
      have : c = pb := by
        rcases hpl with h | h
        · rw [h] at hc; cases hc
        · rw [h] at hc; cases hc; rfl
      rw [← hγ9]
      exact Col.fill_in (by rw [this]; exact hpb) hlt9
    have hk10 : Keep (fun c => c = 2) w9 γ9 w10 γ9 := hc10.keep hk79.wf fun b' _ he => by rw [he]; exact hb2
    have hpr9 : PagesR w9 γ9 (100 + i) pv (List.replicate M PageM.blank) := ⟨List.replicate M (PageM.blank, .slice none 0 0), by simp, hpv, hcol, fun y hy => by
      rw [List.eq_of_mem_replicate hy]
      exact ⟨Bytes.nil _, fun b h => by cases h⟩⟩
    have hb10' : Blk w10 b T (splice l o (cBk (BlockM.fresh M, pv))) := by
      have e : cBk (BlockM.fresh M, pv) = cBk (BlockM.none, pv) := rfl
      rw [e]; exact hb10
    have hbl10 := hback (fun c => c = 2) w10 γ9 (BlockM.fresh M) _ hk10 (by omega) (by omega) hb10' rfl (hpr9.keep hk10 (by omega) (by omega))
    rw [wrap_succ (by omega)]
    refine hag (i + 1) w10 (by omega) (by omega) ⟨γ9, (hk7.trans hk79 fun c h => h).own (hbb1 b hlvb) hc10, (hk79.col n hn7.lt).trans c7, ?_, ?_, (hk79.col gb hg7.lt).trans cg7, ?_⟩
    · exact hk10.blk (hk79.blk hn7 fun h => h) (by rw [hk79.col n hn7.lt, c7]; omega)
    · exact hk10.blk (hk79.blk hg7 fun h => h) (by rw [hk79.col gb hg7.lt, cg7]; omega)
    · rw [← set_rep hlt]; exact hbl10
  · simp [hlt]
    obtain rfl : i = N := by omega
    have hstart : List.replicate i (BlockM.fresh M) ++ List.replicate (i - i) BlockM.none = List.replicate i (BlockM.fresh M) := by simp
    rw [hstart] at hbl7
    have hm7 : Ints w7 mv marked := hm.ch hk7.ch fun _ _ h => h
    rw [hm7.len (by simp), pVal_some]
    have hmk : ArrM.make g pw dr marked = (5, ⟨pw, dr, g, []⟩) ∨ ArrM.make g pw dr marked = (0, ⟨pw, dr, g, markAll (List.replicate i (BlockM.fresh M)) marked⟩) := by
      unfold ArrM.make
      rw [if_neg (by simpa using hc)]
      split
      · exact .inl rfl
      · right; rw [hN, hM]; rfl
    have hbadm : ∀ m, m ∈ marked → (m < 2 ∨ (i : Int) ≤ m) → ArrM.make g pw dr marked = (5, ⟨pw, dr, g, []⟩) := by
      intro m hmm hmb
      unfold ArrM.make
      rw [if_neg (by simpa using hc), if_pos]
      rw [List.any_eq_true]
      exact ⟨m, hmm, by rw [hN]; simpa using hmb⟩
    refine loop1_up marked.length (fun j w' => ∃ γ', Keep (fun _ => False) w γ w' γ' ∧ γ' n = 1 ∧ Blk w' n 127 [i64 g.channels, i64 g.dies, i64 g.blocks, i64 g.pages, ptr p 0, ptr d 0, bv] ∧
      BlocksR w' γ' bv (markAll (List.replicate i (BlockM.fresh M)) (marked.take j)) ∧ ∀ m ∈ marked.take j, ¬ (m < 2 ∨ (i : Int) ≤ m)) ⟨γ7, hk7, c7, hn7, hbl7, fun m hm => by simp at hm⟩ ?_
    rintro j w8 ag2 hag2 hj ⟨γ8, hk8, c8, hn8, hbl8, hall⟩
    simp
    have hm8 : Ints w8 mv marked := hm.ch hk8.ch fun _ _ h => h
    have hlen8 : (markAll (List.replicate i (BlockM.fresh M)) (marked.take j)).length = i := by rw [markAll_length]; simp
    by_cases hjl : j < marked.length
    · simp [hjl]
      refine hm8.get hjl ?_
      have hmem : marked[j] ∈ marked := List.getElem_mem hjl
      generalize hmj : marked[j] = m at hmem
      simp
      refine join0 (fun w' => w' = w8 ∧ ¬ (m < 2 ∨ (i : Int) ≤ m)) ?_ ?_
      · rintro _ ⟨rfl, hok⟩
        refine pLd1 hn8 lay_125 rfl ?_
        obtain ⟨q, rfl⟩ : ∃ q : Nat, m = q := ⟨m.toNat, by omega⟩
        obtain ⟨x, hx⟩ : ∃ x, (markAll (List.replicate i (BlockM.fresh M)) (marked.take j))[q]? = some x := ⟨_, List.getElem?_eq_getElem (by rw [hlen8]; omega)⟩
        obtain ⟨b, o, T, l, pv0, ⟨hb2, hlvb⟩, hb, hidx, ho, hcs, hpg, hback⟩ := hbl8.at hx
        rw [hidx _ _ (by simp), pVal_some]
        simp
        refine pSt1 hb lay_4 rfl rfl (by omega) fun w9 hc9 hb9 => ?_
        rw [splice3 (k := 2) (d := cBk ({ x with bad := true }, pv0)) hcs ho (by omega) rfl] at hb9
        have hk9 : Keep (fun c => c = 2) _ γ8 w9 γ8 := hc9.keep hk8.wf fun b' _ he => by rw [he]; exact hb2
        have hbl9 := hback _ w9 γ8 { x with bad := true } _ hk9 (by omega) (by omega) hb9 rfl (hpg.keep hk9 (by omega) (by omega))
        rw [wrap_succ (by omega)]
        have htk : marked.take (j + 1) = marked.take j ++ [(q : Int)] := by rw [List.take_add_one, List.getElem?_eq_getElem hjl, hmj]; rfl
        refine hag2 (j + 1) w9 (by omega) (by omega) ⟨γ8, hk8.own (hbb1 b hlvb) hc9, c8, hk9.blk hn8 (by rw [c8]; omega), ?_, ?_⟩
        · rw [htk]
          have e : markAll (List.replicate i (BlockM.fresh M)) (marked.take j ++ [(q : Int)]) = (markAll (List.replicate i (BlockM.fresh M)) (marked.take j)).set q { x with bad := true } := by
            unfold markAll at hx ⊢
            rw [List.foldl_append]
            simp only [List.foldl_cons, List.foldl_nil]
            unfold markOne
            simp only [Int.toNat_natCast]
            unfold markOne at hx
            rw [hx]
          rw [e]
          exact hbl9
        · rw [htk]
          intro m hm
          rcases List.mem_append.1 hm with hm | hm
          · exact hall m hm
          · simp at hm; subst hm; exact hok
      · intro J hJ
        by_cases g1 : m < 2
        · simp [g1]
          have := k0 w8 hk8.ch (by rw [hbadm m hmem (.inl g1)]; simp)
          rw [hbadm m hmem (.inl g1)] at this
          exact this
        · simp [g1]
          refine pLd1 hn8 lay_125 rfl ?_
          rw [hbl8.len (by simp), pVal_some, hlen8]
          simp
          by_cases g2 : (i : Int) ≤ m
          · simp [g2]
            have := k0 w8 hk8.ch (by rw [hbadm m hmem (.inr g2)]; simp)
            rw [hbadm m hmem (.inr g2)] at this
            exact this
          · simp [g2]
            exact hJ _ ⟨rfl, by omega⟩
    · simp [hjl]
      obtain rfl : j = marked.length := by omega
      rw [List.take_of_length_le (Nat.le_refl _)] at hbl8 hall hlen8
      have hm0 : ArrM.make g pw dr marked = (0, ⟨pw, dr, g, markAll (List.replicate i (BlockM.fresh M)) marked⟩) := by
        unfold ArrM.make
        rw [if_neg (by simpa using hc), if_neg, hN, hM]
        · rfl
        · rw [List.any_eq_true]
          rintro ⟨m, hmm, hmb⟩
          rw [hN] at hmb
          exact hall m hmm (by simpa using hmb)
      refine k w8 γ8 n hk8 hn0 ?_ (by rw [hm0])
      rw [hm0]
      have hcol : ∀ b, b < w.heap.size → γ8 b = γ b := fun b hb => hk8.col b hb
      refine ArrR.made c8 ((hcol _ hp.lt).trans cp) (hk8.blk hp fun h => h) (hd.keep hk8 (fun h => h) fun h => h) (by simpa [Geo.cells] using hn8) hbl8 ⟨by rw [hlen8]; omega, ?_⟩
      have hfo : ∀ (ms : List Int) (bl : List BlockM), (∀ x ∈ bl, x.pages.length ≤ 16 ∧ x.next ≤ x.pages.length ∧ ∀ p ∈ x.pages, p.beside.length ≤ 32 ∧ p.data.length ≤ 160) →
          ∀ x ∈ markAll bl ms, x.pages.length ≤ 16 ∧ x.next ≤ x.pages.length ∧ ∀ p ∈ x.pages, p.beside.length ≤ 32 ∧ p.data.length ≤ 160 := by
        intro ms
        induction ms with
        | nil => intro bl hb; exact hb
        | cons m ms ih =>
          intro bl hb
          refine ih (markOne bl m) ?_
          unfold markOne
          split
          · rename_i y hy
            intro x hx
            rcases List.mem_or_eq_of_mem_set hx with hx | rfl
            · exact hb x hx
            · exact hb y (List.mem_of_getElem? hy)
          · exact hb
      refine hfo marked _ fun x hx => ?_
      rw [List.eq_of_mem_replicate hx]
      refine ⟨by simp [BlockM.fresh]; omega, by simp [BlockM.fresh], fun p hp => ?_⟩
      rw [List.eq_of_mem_replicate hp]
      simp [PageM.blank]
end Go.Al

namespace Go.Al
open Go Go.Proofs
structure CmdM where
  op : Int
  place : Int
  data : List UInt8
  deriving DecidableEq
structure DoneM where
  slot : Int
  status : Int
  data : List UInt8
  deriving DecidableEq
def CmdM.cells (c : CmdM) : List Value := [i64 c.op, i64 c.place, sV c.data]
theorem CmdM.len (c : CmdM) : c.cells.length = 3 := rfl
theorem CmdM.one (c : CmdM) : c.cells.all (·.oneCell') = true := rfl
def CmdM.val (c : CmdM) : Value := .agg c.cells.toArray
def DoneM.cells (c : DoneM) : List Value := [i64 c.slot, i64 c.status, sV c.data]
theorem DoneM.len (c : DoneM) : c.cells.length = 3 := rfl
theorem DoneM.one (c : DoneM) : c.cells.all (·.oneCell') = true := rfl
def DoneM.val (c : DoneM) : Value := .agg c.cells.toArray
def CmdM.zero : CmdM := ⟨0, 0, []⟩
structure QueueM where
  wait : List CmdM
  done : List DoneM
theorem sli_cmd : sliP P 165 = some (30, 3, 32) := by kernel_rfl
theorem sli_done : sliP P 74 = some (88, 3, 32) := by kernel_rfl
/-- A queue in memory: of three colours. -/
def QueueR (w : World) (γ : Col) (c : Nat) (b : Nat) (q : QueueM) : Prop :=
  γ b = c ∧ q.wait.length ≤ 8 ∧ ∃ wv dv, Blk w b 167 [wv, dv] ∧ Sl w 3 CmdM.cells wv q.wait ∧ Sl w 3 DoneM.cells dv q.done ∧ (∀ x, live wv = some x → γ x = c + 1) ∧ (∀ x, live dv = some x → γ x = c + 2)
theorem QueueR.keep {w w' : World} {γ γ' : Col} {c b : Nat} {q : QueueM} {C : Nat → Prop} (h : QueueR w γ c b q) (hk : Keep C w γ w' γ') (h0 : ¬ C c) (h1 : ¬ C (c + 1)) (h2 : ¬ C (c + 2)) : QueueR w' γ' c b q := by
  obtain ⟨a1, a2, wv, dv, a3, a4, a5, a6, a7⟩ := h
  exact ⟨(hk.col b a3.lt).trans a1, a2, wv, dv, hk.blk a3 (by rw [a1]; exact h0), a4.ch hk.ch fun x hx => by rw [a6 x hx]; exact h1, a5.ch hk.ch fun x hx => by rw [a7 x hx]; exact h2,
    fun x hx => (hk.col x (a4.live_lt hx)).trans (a6 x hx), fun x hx => (hk.col x (a5.live_lt hx)).trans (a7 x hx)⟩
/-- A queue's colours. -/
def quC (c : Nat) (x : Nat) : Prop := c ≤ x ∧ x ≤ c + 2
theorem Queue_New {w : World} {γ : Col} {K : Value → World → Prop} (c : Nat) (hw : Wf w γ) (k : ∀ w' γ' b, Keep (fun _ => False) w γ w' γ' → w.heap.size ≤ b → QueueR w' γ' c b ⟨[], []⟩ → K (ptr b 0) w') : pCall P 53 [] K w := by
  refine c53 ?_
  unfold G53
  simp [buildV_app, fillL, fillA, splice]
  refine pNew_of [.slice none 0 0, .slice none 0 0] rfl fun b w1 hb hbl hf h1 => ?_
  exact k w1 (γ.paint b c) b ((hf.keep hw).paint (by omega) hbl) (by omega) ⟨Col.paint_same, by simp, _, _, h1, Sl.nil _ CmdM.len, Sl.nil _ DoneM.len, fun x h => (by cases h), fun x h => (by cases h)⟩
def CmdM.check (c : CmdM) : Int :=
  if c.op = 2 then 0 else if (c.op = 1 ∨ c.op = 3) ∧ c.data = [] then 0 else if c.op = 4 ∧ c.data = [] ∧ c.place = 0 then 0 else 1
theorem str_eq_nil (l : List UInt8) : ((⟨l.toArray⟩ : ByteArray).toList == (⟨#[]⟩ : ByteArray).toList) = decide (l = []) := by
  rw [ByteArray.toList_eq, ByteArray.toList_eq]
  cases l with
  | nil => rfl
  | cons a l => simp
theorem Queue_Check {w : World} {c : CmdM} {K : Value → World → Prop} (k : ∀ w', Fr w w' → K (i64 c.check) w') : pCall P 143 [c.val] K w := by
  refine c143 ?_
  unfold G143
  refine pNew_of c.cells (by rfl) fun b w1 hb hbl hf h1 => ?_
  have k' := k w1 hf
  unfold CmdM.check at k'
  simp
  refine pLd1 h1 lay_3 rfl ?_
  simp
  by_cases g2 : c.op = 2
  · simp [g2] at k' ⊢; exact k'
  simp [g2] at k' ⊢
  refine pJoin1_in ?_
  have hdata : ∀ {A : World → Prop} {B : World → Prop}, (if c.data = [] then A w1 else B w1) → pLd P 9 (ptr b 2) (fun v11 => pVal (binV P .eql 9 v11 (.string { data := #[] })) fun v12 => pIf v12 A B) w1 := by
    intro A B hAB
    refine pLd1 h1 lay_9 rfl ?_
    rw [binV_str_eql, str_eq_nil]
    simpa using hAB
  by_cases g1 : c.op = 1
  · simp [g1] at k' ⊢
    refine hdata ?_
    split
    · rename_i h; simp [h] at k'; exact k'
    · rename_i h; simp [h] at k'; exact k'
  simp [g1] at k' ⊢
  by_cases g3 : c.op = 3
  · simp [g3] at k' ⊢
    refine hdata ?_
    split
    · rename_i h; simp [h] at k'; exact k'
    · rename_i h; simp [h] at k'; exact k'
  simp [g3] at k' ⊢
  by_cases g4 : c.op = 4
  · simp [g4] at k' ⊢
    refine pLd1 h1 lay_9 rfl ?_
    rw [binV_str_eql, str_eq_nil]
    by_cases gd : c.data = []
    · simp [gd] at k' ⊢
      refine pLd1 h1 lay_3 rfl ?_
      simp
      split
      · rename_i h; simp [h] at k'; exact k'
      · rename_i h; simp [h] at k'; exact k'
    · simp [gd] at k' ⊢; exact k'
  · simp [g4] at k' ⊢; exact k'
def QueueM.submit (q : QueueM) (c : CmdM) : Int × QueueM :=
  if c.check ≠ 0 then (c.check, q) else if 8 ≤ q.wait.length then (8, q) else (0, { q with wait := q.wait ++ [c] })
theorem rowV_one {e : TypeId} {z v : Value} {n : Nat} {l : List Value} (hz : zeroP P e = some z) (hzl : z.cells.toList.length = n) (hn : 0 < n) (hn2 : n ≤ 1000) (hv : v.cells.toList = l) (hl : l.length = n) : rowV P e n 1 [(0, v)] = some l := by
  unfold rowV
  rw [hz]
  simp only
  rw [if_pos (by omega)]
  have : (List.range (1 * n)).map (fun i => z.cells[i % z.cells.size]!) = z.cells.toList := by
    have := made_cells z.cells.toList (by omega) 1
    simp only [List.replicate_one, List.flatten_singleton] at this
    rw [hzl] at this
    have hzs : z.cells.size = n := by simpa using hzl
    rw [hzs]
    simpa using this
  rw [this]
  unfold fillA
  rw [if_pos (by rw [hv]; omega)]
  unfold fillA splice
  rw [hv, List.drop_of_length_le (by omega)]
  simp
theorem Queue_Submit {w : World} {γ : Col} {c b : Nat} {q : QueueM} {x : CmdM} {K : Value → World → Prop} (hw : Wf w γ) (hc : 0 < c) (h : QueueR w γ c b q)
    (k : ∀ w' γ', Keep (quC c) w γ w' γ' → QueueR w' γ' c b (q.submit x).2 → K (i64 (q.submit x).1) w') : pCall P 84 [ptr b 0, x.val] K w := by
  refine c84 ?_
  unfold G84
  refine pNew_of x.cells (by rfl) fun vb w1 hb hbl hf1 h1 => ?_
  simp only [binV_ptr_eql kind_98, pVal_some, pIf_bool, Option.isNone_some, Bool.false_eq_true, if_false]
  refine pLdN x.cells h1 lay_30 (by simp [CmdM.cells]) (by rfl) ?_
  refine Queue_Check fun w2 hf2 => ?_
  have hf02 := hf1.trans hf2
  have hq2 := h.keep (hf02.keep (C := fun _ => False) hw) (fun h => h) (fun h => h) fun h => h
  by_cases gc : x.check = 0
  rotate_left
  · simp [gc]
    have e : q.submit x = (x.check, q) := by unfold QueueM.submit; rw [if_pos gc]
    have := k w2 γ (hf02.keep hw) (by rw [e]; exact hq2)
    rw [e] at this
    exact this
  simp [gc]
  obtain ⟨a1, a2, wv, dv, a3, a4, a5, a6, a7⟩ := id hq2
  refine pLd1 a3 lay_165 rfl ?_
  rw [a4.len (by simp), pVal_some]
  simp
  by_cases g8 : 8 ≤ q.wait.length
  · have : (8 : Int) ≤ q.wait.length := by omega
    simp [this]
    have e : q.submit x = (8, q) := by unfold QueueM.submit; rw [if_neg (by simpa using gc), if_pos g8]
    have := k w2 γ (hf02.keep hw) (by rw [e]; exact hq2)
    rw [e] at this
    exact this
  have g8' : ¬ (8 : Int) ≤ q.wait.length := by omega
  simp [g8']
  refine pDraw_fr (fun w' => Blk w' b 167 [wv, dv] ∧ Blk w' vb 30 x.cells) fun w3 hf3 hb3 hs3 => ⟨⟨hb3 _ _ _ a3, hb3 _ _ _ (hf2.blk h1 fun h => h)⟩, ?_⟩
  refine pHld1 (fun w' h => h.1) lay_165 rfl ?_
  refine pHldN x.cells (fun w' h => h.2) lay_30 (by simp [CmdM.cells]) (by rfl) ?_
  refine pRowN [x] sli_cmd CmdM.len rfl (by omega) (by simpa using rowV_one (l := x.cells) (n := 3) zero_30 rfl (by omega) (by omega) rfl rfl) fun rv w4 hrv hf4 hfr4 => ?_
  rw [pKeep_true]
  have hb4 := hf4.blk (hb3 _ _ _ a3) fun h => h
  have hx4 := hf4.blk (hb3 _ _ _ (hf2.blk h1 fun h => h)) fun h => h
  refine ⟨⟨hb4, hx4⟩, ?_⟩
  have a4' : Sl w4 3 CmdM.cells wv q.wait := (a4.fr hf3).fr hf4
  refine pAppend sli_cmd a4' hrv CmdM.one (by simp; omega) (by omega) fun av w5 hav hc5 hlv => ?_
  rw [pKeep_true]
  have hvb0 : γ vb = 0 := hw vb (by omega)
  have hw4 : Wf w4 γ := (((hf02.trans hf3).trans hf4).keep (C := fun _ => False) hw).wf
  have hk45 : Keep (fun y => y = c + 1) w4 γ w5 γ := hc5.keep hw4 fun y _ hy => a6 y hy
  refine ⟨⟨hk45.blk hb4 (by rw [a1]; omega), hk45.blk hx4 (by rw [hvb0]; omega)⟩, ?_⟩
  refine pSt1 (hk45.blk hb4 (by rw [a1]; omega)) lay_165 hav.cell1 hav.one (by simp) fun w6 hc6 h6 => ?_
  have hk04 : Keep (quC c) w γ w4 γ := ((hf02.trans hf3).trans hf4).keep hw
  have hk05 : Keep (quC c) w γ w5 (γ.fill w4.heap.size w5.heap.size (c + 1)) := (hk04.trans hk45 fun y hy => by unfold quC; omega).fill hk04.size (Nat.le_refl _)
  have hcol4 : ∀ y, y < w4.heap.size → γ.fill w4.heap.size w5.heap.size (c + 1) y = γ y := fun y hy => Col.fill_out hy
  have hb4lt : b < w4.heap.size := hb4.lt
  have hk56 : Keep (fun y => y = c) w5 (γ.fill w4.heap.size w5.heap.size (c + 1)) w6 (γ.fill w4.heap.size w5.heap.size (c + 1)) := hc6.keep hk05.wf fun y _ hy => by rw [hy, hcol4 b hb4lt]; exact a1
  have e : q.submit x = (0, { q with wait := q.wait ++ [x] }) := by unfold QueueM.submit; rw [if_neg (by simpa using gc), if_neg g8]
  have a5' : Sl w4 3 DoneM.cells dv q.done := (a5.fr hf3).fr hf4
  have hlav : ∀ y, live av = some y → γ.fill w4.heap.size w5.heap.size (c + 1) y = c + 1 := fun y hy => by
    rcases hlv with hl | ⟨z, hz, hle⟩
    · rw [hl] at hy
      rw [hcol4 y (a4'.live_lt hy)]; exact a6 y hy
    · rw [hz] at hy; cases hy
      exact Col.fill_in hle (hav.live_lt hz)
  have hne : ∀ y, live av = some y → ¬ y = b := fun y hy he => by
    have := hlav y hy
    rw [he, hcol4 b hb4lt, a1] at this
    omega
  have := k w6 (γ.fill w4.heap.size w5.heap.size (c + 1)) (hk05.trans hk56 fun y hy => by unfold quC; omega) (by
    rw [e]
    refine ⟨(hcol4 b hb4lt).trans a1, by simp; omega, av, dv, h6, hav.ch hc6 hne, (a5'.ch hk45.ch fun y hy => by rw [a7 y hy]; omega).ch hc6 fun y hy he => by have := a7 y hy; rw [he, a1] at this; omega, hlav, fun y hy => by
      rw [hcol4 y (a5'.live_lt hy)]; exact a7 y hy⟩)
  rw [e] at this
  exact this
end Go.Al

namespace Go.Al
open Go Go.Proofs
theorem Queue_Len {w : World} {γ : Col} {c b : Nat} {q : QueueM} {K : Value → World → Prop} (h : QueueR w γ c b q) (k : K (i64 q.wait.length) w) : pCall P 61 [ptr b 0] K w := by
  refine c61 ?_
  unfold G61
  obtain ⟨a1, a2, wv, dv, a3, a4, a5, a6, a7⟩ := h
  simp [binV_ptr_eql]
  refine pLd1 a3 lay_165 rfl ?_
  rw [a4.len (by simp), pVal_some]
  exact k
theorem Clone_done {w : World} {v : Value} {xs : List DoneM} {K : Value → World → Prop} (h : Sl w 3 DoneM.cells v xs) (h63 : xs.length ≤ 1000000000)
    (k : ∀ v' w', Sl w' 3 DoneM.cells v' xs → Fr w w' → Fresh w v' → K v' w') : pCall P 153 [v] K w := by
  refine c153 ?_
  unfold G153
  exact clone_of sli_done (by simp) h DoneM.one h63 (by omega) k
theorem Queue_All {w : World} {γ : Col} {c b : Nat} {q : QueueM} {K : Value → World → Prop} (h : QueueR w γ c b q) (h63 : q.done.length ≤ 1000000000)
    (k : ∀ v' w', Sl w' 3 DoneM.cells v' q.done → Fr w w' → Fresh w v' → K v' w') : pCall P 102 [ptr b 0] K w := by
  refine c102 ?_
  unfold G102
  obtain ⟨a1, a2, wv, dv, a3, a4, a5, a6, a7⟩ := h
  simp [binV_ptr_eql]
  refine pLd1 a3 lay_74 rfl ?_
  exact Clone_done a5 h63 k
theorem Queue_Next {w : World} {γ : Col} {c b : Nat} {q : QueueM} {K : Value → World → Prop} (hw : Wf w γ) (hc : 0 < c) (h : QueueR w γ c b q)
    (k0 : ∀ w', Fr w w' → q.wait = [] → K (.tuple #[CmdM.zero.val, .bool false]) w')
    (k : ∀ w' x l, Keep (quC c) w γ w' γ → q.wait = x :: l → QueueR w' γ c b { q with wait := l } → K (.tuple #[x.val, .bool true]) w') : pCall P 85 [ptr b 0] K w := by
  refine c85 ?_
  unfold G85
  refine pAlloc_of [i64 0, i64 0, sV []] zero_30 rfl fun rb w1 hrb hrbl hf1 h1 => ?_
  have hq1 := h.keep (hf1.keep (C := fun _ => False) hw) (fun h => h) (fun h => h) fun h => h
  refine Queue_Len hq1 ?_
  have hw1 : Wf w1 γ := (hf1.keep (C := fun _ => False) hw).wf
  cases hq : q.wait with
  | nil =>
    simp [buildV_app, fillL, fillA, splice]
    refine pStN [i64 0, i64 0, sV []] h1 lay_30 rfl rfl (by simp) rfl fun w2 hc2 h2 => ?_
    exact pResN h2 lay_30 rfl (k0 w2 (Ch.new hf1 hrb hc2) hq)
  | cons x l =>
    obtain ⟨a1, a2, wv, dv, a3, a4, a5, a6, a7⟩ := hq1
    rw [hq] at a4 a2
    have hne : ¬ ((l.length : Int) + 1 = 0) := by omega
    simp [hne]
    refine pLd1 a3 lay_165 rfl ?_
    obtain ⟨eb, eo, eT, el, _, heb, hidx, heo, hec, _⟩ := Sl.at a4 (i := 0) (x := x) rfl (by omega)
    have hidx' := hidx 165 .i64 (by exact idx_165)
    simp only [Int.natCast_zero] at hidx'
    rw [hidx', pVal_some]
    refine pLdN x.cells heb lay_30 heo hec ?_
    refine pAlloc_of [i64 0, i64 0, sV []] zero_30 rfl fun cb w2 hcb hcbl hf2 h2 => ?_
    refine pStN x.cells h2 lay_30 rfl rfl (by simp) rfl fun w3 hc3 h3 => ?_
    have h3' : Blk w3 cb 30 x.cells := h3
    have hf13 : Fr w1 w3 := Ch.new hf2 hcb hc3
    have b3 := hf13.blk a3 fun h => h
    refine pLd1 b3 lay_165 rfl ?_
    obtain ⟨v', hv', hs', hl'⟩ := sl_slice (t := 165) (lo := some (i64 1)) (hi := Option.none) (l := 1) (k := (x :: l).length) (a4.fr hf13) sli_cmd (Nat.le_refl _) (by simp) (fun c hc => rfl) (by rw [show (1 : Int) = ((1 : Nat) : Int) from rfl]; exact boundV_nat _ _ _ _ (by simp))
    rw [hv', pVal_some]
    have hs : Sl w3 3 CmdM.cells v' l := by simpa using hs'
    have hw3 : Wf w3 γ := (hf13.keep (C := fun _ => False) hw1).wf
    refine pSt1 b3 lay_165 hs.cell1 hs.one (by simp) fun w4 hc4 h4 => ?_
    have hk34 : Keep (fun y => y = c) w3 γ w4 γ := hc4.keep hw3 fun y _ hy => by rw [hy]; exact a1
    have crb : γ rb = 0 := hw rb (by omega)
    have ccb : γ cb = 0 := hw1 cb (by omega)
    have h4' : Blk w4 b 167 [v', dv] := h4
    refine pLdN x.cells (hk34.blk h3' (by rw [ccb]; omega)) lay_30 (by simp [CmdM.cells]) (by rfl) ?_
    refine pStN x.cells (hk34.blk (hf13.blk h1 fun h => h) (by rw [crb]; omega)) lay_30 rfl rfl (by simp) rfl fun w5 hc5 h5 => ?_
    have h5' : Blk w5 rb 30 x.cells := h5
    have hk03 : Keep (quC c) w γ w3 γ := (hf1.trans hf13).keep hw
    have hk04 := hk03.trans hk34 fun y hy => by unfold quC; omega
    have hk05 := hk04.own (by omega) hc5
    have hk45 : Keep (fun y => y = 0) w4 γ w5 γ := hc5.keep hk04.wf fun y _ hy => by rw [hy]; exact crb
    refine pResN h5' lay_30 rfl (k w5 x l hk05 hq ?_)
    have hq4 : QueueR w4 γ c b { q with wait := l } := by
      refine ⟨a1, by simp at a2 ⊢; omega, v', dv, h4', hs.ch hc4 fun y hy he => ?_, (a5.fr hf13).ch hc4 fun y hy he => ?_, fun y hy => ?_, a7⟩
      · rcases hl' with hl' | hl'
        · have := a6 y (by rw [← hl']; exact hy); rw [he, a1] at this; omega
        · rw [hl'] at hy; cases hy
      · have := a7 y hy; rw [he, a1] at this; omega
      · rcases hl' with hl' | hl'
        · exact a6 y (by rw [← hl']; exact hy)
        · rw [hl'] at hy; cases hy
    exact hq4.keep hk45 (by omega) (by omega) (by omega)
theorem Queue_Done {w : World} {γ : Col} {c b : Nat} {q : QueueM} {x : DoneM} {K : Value → World → Prop} (hw : Wf w γ) (hc : 0 < c) (h : QueueR w γ c b q) (h63 : q.done.length ≤ 100000000)
    (k : ∀ w' γ', Keep (quC c) w γ w' γ' → QueueR w' γ' c b { q with done := q.done ++ [x] } → K (.tuple #[]) w') : pCall P 87 [ptr b 0, x.val] K w := by
  refine c87 ?_
  unfold G87
  refine pNew_of x.cells (by rfl) fun vb w1 hb hbl hf1 h1 => ?_
  simp [binV_ptr_neq]
  have hq1 := h.keep (hf1.keep (C := fun _ => False) hw) (fun h => h) (fun h => h) fun h => h
  obtain ⟨a1, a2, wv, dv, a3, a4, a5, a6, a7⟩ := id hq1
  refine pDraw_fr (fun w' => Blk w' b 167 [wv, dv] ∧ Blk w' vb 88 x.cells) fun w3 hf3 hb3 hs3 => ⟨⟨hb3 _ _ _ a3, hb3 _ _ _ h1⟩, ?_⟩
  refine pHld1 (fun w' h => h.1) lay_74 rfl ?_
  refine pHldN x.cells (fun w' h => h.2) lay_88 (by simp [DoneM.cells]) (by rfl) ?_
  refine pRowN [x] sli_done DoneM.len rfl (by omega) (by simpa using rowV_one (l := x.cells) (n := 3) zero_88 rfl (by omega) (by omega) rfl rfl) fun rv w4 hrv hf4 hfr4 => ?_
  simp
  have hb4 := hf4.blk (hb3 _ _ _ a3) fun h => h
  have hx4 := hf4.blk (hb3 _ _ _ h1) fun h => h
  refine ⟨⟨hb4, hx4⟩, ?_⟩
  have a5' : Sl w4 3 DoneM.cells dv q.done := (a5.fr hf3).fr hf4
  have a4' : Sl w4 3 CmdM.cells wv q.wait := (a4.fr hf3).fr hf4
  refine pAppend sli_done a5' hrv DoneM.one (by simp; omega) (by omega) fun av w5 hav hc5 hlv => ?_
  rw [pKeep_true]
  have hvb0 : γ vb = 0 := hw vb (by omega)
  have hf04 := (hf1.trans hf3).trans hf4
  have hw4 : Wf w4 γ := (hf04.keep (C := fun _ => False) hw).wf
  have hk45 : Keep (fun y => y = c + 2) w4 γ w5 γ := hc5.keep hw4 fun y _ hy => a7 y hy
  refine ⟨⟨hk45.blk hb4 (by rw [a1]; omega), hk45.blk hx4 (by rw [hvb0]; omega)⟩, ?_⟩
  refine pSt1 (hk45.blk hb4 (by rw [a1]; omega)) lay_74 hav.cell1 hav.one (by simp) fun w6 hc6 h6 => ?_
  have hk04 : Keep (quC c) w γ w4 γ := hf04.keep hw
  have hk05 : Keep (quC c) w γ w5 (γ.fill w4.heap.size w5.heap.size (c + 2)) := (hk04.trans hk45 fun y hy => by unfold quC; omega).fill hk04.size (Nat.le_refl _)
  have hcol4 : ∀ y, y < w4.heap.size → γ.fill w4.heap.size w5.heap.size (c + 2) y = γ y := fun y hy => Col.fill_out hy
  have hb4lt : b < w4.heap.size := hb4.lt
  have hk56 : Keep (fun y => y = c) w5 (γ.fill w4.heap.size w5.heap.size (c + 2)) w6 (γ.fill w4.heap.size w5.heap.size (c + 2)) := hc6.keep hk05.wf fun y _ hy => by rw [hy, hcol4 b hb4lt]; exact a1
  have hlav : ∀ y, live av = some y → γ.fill w4.heap.size w5.heap.size (c + 2) y = c + 2 := fun y hy => by
    rcases hlv with hl | ⟨z, hz, hle⟩
    · rw [hl] at hy
      rw [hcol4 y (a5'.live_lt hy)]; exact a7 y hy
    · rw [hz] at hy; cases hy
      exact Col.fill_in hle (hav.live_lt hz)
  have hne : ∀ y, live av = some y → ¬ y = b := fun y hy he => by
    have := hlav y hy
    rw [he, hcol4 b hb4lt, a1] at this
    omega
  refine k w6 (γ.fill w4.heap.size w5.heap.size (c + 2)) (hk05.trans hk56 fun y hy => by unfold quC; omega) ?_
  exact ⟨(hcol4 b hb4lt).trans a1, a2, wv, av, h6, (a4'.ch hk45.ch fun y hy => by rw [a6 y hy]; omega).ch hc6 fun y hy he => by have := a6 y hy; rw [he, a1] at this; omega,
    hav.ch hc6 hne, fun y hy => by rw [hcol4 y (a4'.live_lt hy)]; exact a6 y hy, hlav⟩
theorem Queue_Clear {w : World} {γ : Col} {c b : Nat} {q : QueueM} {K : Value → World → Prop} (hw : Wf w γ) (hc : 0 < c) (h : QueueR w γ c b q)
    (k : ∀ w', Keep (quC c) w γ w' γ → QueueR w' γ c b { q with wait := [] } → K (.tuple #[]) w') : pCall P 74 [ptr b 0] K w := by
  refine c74 ?_
  unfold G74
  obtain ⟨a1, a2, wv, dv, a3, a4, a5, a6, a7⟩ := id h
  simp [binV_ptr_neq]
  refine pLd1 a3 lay_165 rfl ?_
  refine pClear (x := CmdM.zero) sli_cmd zero_30 rfl (by omega) rfl a4 fun w1 hc1 hs1 => ?_
  have hk1 : Keep (fun y => y = c + 1) w γ w1 γ := hc1.keep hw fun y _ hy => a6 y hy
  have b1 := hk1.blk a3 (by rw [a1]; omega)
  refine pLd1 b1 lay_165 rfl ?_
  obtain ⟨v', hv', hs', hl'⟩ := sl_slice (t := 165) (lo := Option.none) (hi := some (i64 0)) (l := 0) (k := 0) hs1 sli_cmd (by omega) (by omega) (fun c hc => by rw [show (0 : Int) = ((0 : Nat) : Int) from rfl]; exact boundV_nat _ _ _ _ (by omega)) rfl
  rw [hv', pVal_some]
  have hs : Sl w1 3 CmdM.cells v' [] := by simpa using hs'
  refine pSt1 b1 lay_165 hs.cell1 hs.one (by simp) fun w2 hc2 h2 => ?_
  have hk2 : Keep (fun y => y = c) w1 γ w2 γ := hc2.keep hk1.wf fun y _ hy => by rw [hy]; exact a1
  refine k w2 ((hk1.mono fun y hy => by unfold quC; omega).trans hk2 fun y hy => by unfold quC; omega) ?_
  refine ⟨a1, by simp, v', dv, h2, hs.ch hc2 fun y hy he => ?_, (a5.ch hk1.ch fun y hy => by rw [a7 y hy]; omega).ch hc2 fun y hy he => ?_, fun y hy => ?_, a7⟩
  · rcases hl' with hl' | hl'
    · have := a6 y (by rw [← hl']; exact hy); rw [he, a1] at this; omega
    · rw [hl'] at hy; cases hy
  · have := a7 y hy; rw [he, a1] at this; omega
  · rcases hl' with hl' | hl'
    · exact a6 y (by rw [← hl']; exact hy)
    · rw [hl'] at hy; cases hy
end Go.Al

namespace Go.Al
open Go Go.Proofs
structure ChM where
  place : Int
  kind : Int
  data : List UInt8
  deriving DecidableEq
def ChM.cells (c : ChM) : List Value := [i64 c.place, i64 c.kind, sV c.data]
theorem ChM.len (c : ChM) : c.cells.length = 3 := rfl
def ChM.val (c : ChM) : Value := .agg c.cells.toArray
def ChM.zero : ChM := ⟨0, 0, []⟩
/-- A buffer in memory, of one colour: what waits, in order. -/
def BufferR (w : World) (γ : Col) (c b : Nat) (l : List ChM) : Prop :=
  γ b = c ∧ l.length ≤ 4 ∧ ∃ (ring : List ChM) (fr : Nat), ring.length = 4 ∧ fr < 4 ∧ Blk w b 218 (ring.flatMap ChM.cells ++ [i64 fr, i64 l.length]) ∧ ∀ i, i < l.length → ring[(fr + i) % 4]? = l[i]?
theorem BufferR.keep {w w' : World} {γ γ' : Col} {c b : Nat} {l : List ChM} {C : Nat → Prop} (h : BufferR w γ c b l) (hk : Keep C w γ w' γ') (hc : ¬ C c) : BufferR w' γ' c b l := by
  obtain ⟨h1, h2, ring, fr, h3, h4, h5, h6⟩ := h
  exact ⟨(hk.col b h5.lt).trans h1, h2, ring, fr, h3, h4, hk.blk h5 (by rw [h1]; exact hc), h6⟩
theorem Buffer_New {w : World} {γ : Col} {K : Value → World → Prop} (c : Nat) (hw : Wf w γ) (k : ∀ w' b, Keep (fun _ => False) w γ w' (γ.paint b c) → b = w.heap.size → b < w'.heap.size → Fr w w' → BufferR w' (γ.paint b c) c b [] → K (ptr b 0) w') : pCall P 133 [] K w := by
  refine c133 ?_
  unfold G133
  simp [buildV_app, fillL, fillA, splice]
  refine pNew_of ((List.replicate 4 ChM.zero).flatMap ChM.cells ++ [i64 ((0 : Nat) : Int), i64 0]) rfl fun b w1 hb hbl hf h1 => ?_
  exact k w1 b ((hf.keep hw).paint (by omega) hbl) hb hbl hf ⟨Col.paint_same, by simp, _, 0, rfl, by omega, h1, fun i hi => by simp at hi⟩
theorem tail12 {ring : List ChM} (h : ring.length = 4) (a b : Value) : (ring.flatMap ChM.cells ++ [a, b])[12]? = some a ∧ (ring.flatMap ChM.cells ++ [a, b])[13]? = some b := by
  have hl : (ring.flatMap ChM.cells).length = 12 := by rw [length_flatMap ChM.len]; omega
  constructor <;> rw [List.getElem?_append_right (by omega), hl] <;> rfl
theorem Buffer_at {w : World} {b fr i : Nat} {l : List Value} {K : Value → World → Prop} (h : Blk w b 218 l) (hl : l[12]? = some (i64 fr)) (hf4 : fr < 4) (hi : i ≤ 4)
    (k : ∀ w', Fr w w' → K (ptr b ((fr + i) % 4 * 3)) w') : pCall P 156 [ptr b 0, i64 i] K w := by
  refine c156 ?_
  unfold G156
  refine pDraw_fr (fun w' => Blk w' b 218 l) fun w1 hf1 hb1 hs1 => ⟨hb1 _ _ _ h, ?_⟩
  simp
  refine pHld1 (fun w' h => h) lay_3 hl ?_
  simp only [binV_add, pVal_some]
  rw [wrap_in (by omega) (by omega), binV_rem _ _ _ _ (by omega), pVal_some]
  have e : ((fr : Int) + (i : Int)).tmod 4 = (((fr + i) % 4 : Nat) : Int) := by
    rw [Int.tmod_eq_emod_of_nonneg (by omega)]; omega
  rw [e]
  simp
  rw [if_pos (by omega)]
  simp
  exact k w1 hf1
theorem Buffer_Len {w : World} {γ : Col} {c b : Nat} {l : List ChM} {K : Value → World → Prop} (h : BufferR w γ c b l) (k : K (i64 l.length) w) : pCall P 117 [ptr b 0] K w := by
  refine c117 ?_
  unfold G117
  obtain ⟨h1, h2, ring, fr, h3, h4, h5, h6⟩ := h
  simp [binV_ptr_eql]
  exact pLd1 h5 lay_3 (tail12 h3 _ _).2 k
theorem Buffer_Full {w : World} {γ : Col} {c b : Nat} {l : List ChM} {K : Value → World → Prop} (h : BufferR w γ c b l) (k : K (.bool (decide (l.length = 4))) w) : pCall P 207 [ptr b 0] K w := by
  refine c207 ?_
  unfold G207
  obtain ⟨h1, h2, ring, fr, h3, h4, h5, h6⟩ := h
  simp [binV_ptr_eql]
  refine pLd1 h5 lay_3 (tail12 h3 _ _).2 ?_
  simp
  have e : decide ((l.length : Int) = 4) = decide (l.length = 4) := by
    by_cases hl : l.length = 4
    · simp [hl]
    · have : ¬ (l.length : Int) = 4 := by omega
      simp [hl, this]
  rw [e]; exact k
def ChM.check (c : ChM) : Int :=
  if c.kind ≠ 1 ∧ c.kind ≠ 2 then 1 else if c.place < 0 ∨ 64 ≤ c.place ∨ (c.kind = 2 ∧ c.data ≠ []) then 1 else if 16 < c.data.length then 3 else 0
theorem str_ne_nil (l : List UInt8) : (!((⟨l.toArray⟩ : ByteArray).toList == (⟨#[]⟩ : ByteArray).toList)) = decide (l ≠ []) := by
  rw [str_eq_nil]; simp
theorem Buffer_check {w : World} {c : ChM} {K : Value → World → Prop} (k : ∀ w', Fr w w' → K (i64 c.check) w') : pCall P 239 [c.val] K w := by
  refine c239 ?_
  unfold G239
  refine pNew_of c.cells (by rfl) fun b w1 hb hbl hf h1 => ?_
  have k' := k w1 hf
  unfold ChM.check at k'
  simp
  refine join1 (fun v w' => v = .bool (decide (c.kind ≠ 1 ∧ c.kind ≠ 2)) ∧ w' = w1) ?_ ?_
  rotate_left
  · intro J hJ
    refine pLd1 h1 lay_3 rfl ?_
    simp
    by_cases g : c.kind = 1
    · simp [g]; exact hJ _ _ ⟨by simp [g], rfl⟩
    · simp [g]
      refine pLd1 h1 lay_3 rfl ?_
      simp
      exact hJ _ _ ⟨by simp [g], rfl⟩
  rintro _ w2 ⟨rfl, rfl⟩
  rw [pIf_bool]
  by_cases g1 : c.kind ≠ 1 ∧ c.kind ≠ 2
  · rw [decide_eq_true g1, if_pos rfl]
    rw [if_pos g1] at k'; exact k'
  rw [if_neg g1] at k'
  rw [decide_eq_false g1, if_neg Bool.false_ne_true]
  refine join1 (fun v w' => v = .bool (decide (c.place < 0 ∨ 64 ≤ c.place ∨ (c.kind = 2 ∧ c.data ≠ []))) ∧ w' = w2) ?_ ?_
  rotate_left
  · intro J hJ
    refine pLd1 h1 lay_3 rfl ?_
    simp
    by_cases g2 : c.place < 0
    · simp [g2]; exact hJ _ _ ⟨by simp [g2], rfl⟩
    simp [g2]
    refine pLd1 h1 lay_3 rfl ?_
    simp
    by_cases g3 : 64 ≤ c.place
    · simp [g3]; exact hJ _ _ ⟨by simp [g3], rfl⟩
    simp [g3]
    refine pLd1 h1 lay_3 rfl ?_
    simp
    by_cases g4 : c.kind = 2
    · simp [g4]
      refine pLd1 h1 lay_9 rfl ?_
      rw [binV_str_neq, str_ne_nil, pVal_some]
      exact hJ _ _ ⟨by simp [g2, g3, g4], rfl⟩
    · simp [g4]; exact hJ _ _ ⟨by simp [g2, g3, g4], rfl⟩
  rintro _ _ ⟨rfl, rfl⟩
  rw [pIf_bool]
  by_cases g2 : c.place < 0 ∨ 64 ≤ c.place ∨ (c.kind = 2 ∧ c.data ≠ [])
  · rw [decide_eq_true g2, if_pos rfl]
    rw [if_pos g2] at k'; exact k'
  rw [if_neg g2] at k'
  rw [decide_eq_false g2, if_neg Bool.false_ne_true]
  refine pLd1 h1 lay_9 rfl ?_
  rw [lenBV_string kind_9, pVal_some, bytes_len]
  simp
  by_cases g3 : 16 < c.data.length
  · have : (16 : Int) < c.data.length := by omega
    simp [this]
    rw [if_pos g3] at k'; exact k'
  · have : ¬ (16 : Int) < c.data.length := by omega
    simp [this]
    rw [if_neg g3] at k'; exact k'
theorem ring_at {ring : List ChM} {j : Nat} {x : ChM} (hj : ring[j]? = some x) (a b : Value) {k : Nat} (hk : k < 3) : (ring.flatMap ChM.cells ++ [a, b])[j * 3 + k]? = x.cells[k]? := by
  have := flat_get ChM.len hj [] [a, b] hk
  simpa using this
theorem ring_take {ring : List ChM} {j : Nat} {x : ChM} (hj : ring[j]? = some x) (a b : Value) : ((ring.flatMap ChM.cells ++ [a, b]).drop (j * 3)).take 3 = x.cells := by
  apply List.ext_getElem?
  intro k
  rw [List.getElem?_take]
  split
  · rename_i hk
    rw [List.getElem?_drop, ring_at hj a b hk]
  · rw [List.getElem?_eq_none (by rw [ChM.len]; omega)]
theorem ring_splice {ring : List ChM} {j : Nat} (hj : j < ring.length) (y : ChM) (a b : Value) : splice (ring.flatMap ChM.cells ++ [a, b]) (j * 3) y.cells = (ring.set j y).flatMap ChM.cells ++ [a, b] := by
  have := flat_set ChM.len hj y [] [a, b]
  simpa using this
theorem ring_set12 {ring : List ChM} (h : ring.length = 4) (a b v : Value) : (ring.flatMap ChM.cells ++ [a, b]).set 12 v = ring.flatMap ChM.cells ++ [v, b] ∧ (ring.flatMap ChM.cells ++ [a, b]).set 13 v = ring.flatMap ChM.cells ++ [a, v] := by
  have hl : (ring.flatMap ChM.cells).length = 12 := by rw [length_flatMap ChM.len]; omega
  constructor <;> rw [List.set_append_right _ _ (by omega), hl] <;> rfl
theorem Buffer_First {w : World} {γ : Col} {c b : Nat} {l : List ChM} {K : Value → World → Prop} (hw : Wf w γ) (h : BufferR w γ c b l)
    (k0 : ∀ w', Fr w w' → l = [] → K (.tuple #[ChM.zero.val, .bool false]) w') (k : ∀ w' x r, Fr w w' → l = x :: r → K (.tuple #[x.val, .bool true]) w') : pCall P 202 [ptr b 0] K w := by
  refine c202 ?_
  unfold G202
  refine pAlloc_of [i64 0, i64 0, sV []] zero_176 rfl fun rb w1 hrb hrbl hf1 h1 => ?_
  have hB1 := h.keep (hf1.keep (C := fun _ => False) hw) fun h => h
  refine Buffer_Len hB1 ?_
  cases hl : l with
  | nil =>
    simp [buildV_app, fillL, fillA, splice]
    refine pStN [i64 0, i64 0, sV []] h1 lay_176 rfl rfl (by simp) rfl fun w2 hc2 h2 => ?_
    exact pResN h2 lay_176 rfl (k0 w2 (Ch.new hf1 hrb hc2) hl)
  | cons x r =>
    have hne : ¬ ((r.length : Int) + 1 = 0) := by omega
    simp [hne]
    obtain ⟨g1, g2, ring, fr, g3, g4, g5, g6⟩ := hB1
    refine Buffer_at (i := 0) g5 (tail12 g3 _ _).1 g4 (by omega) fun w2 hf2 => ?_
    have hx := g6 0 (by rw [hl]; simp)
    rw [hl] at hx
    simp at hx
    rw [Nat.mod_eq_of_lt g4] at hx
    simp [Nat.mod_eq_of_lt g4]
    have hlen : (ring.flatMap ChM.cells ++ [i64 fr, i64 l.length]).length = 14 := by rw [List.length_append, length_flatMap ChM.len, g3]; rfl
    refine pLdN x.cells (hf2.blk g5 fun h => h) lay_176 (by rw [hlen]; omega) (ring_take hx _ _) ?_
    refine pStN x.cells (hf2.blk h1 fun h => h) lay_176 rfl rfl (by simp) rfl fun w3 hc3 h3 => ?_
    have h3' : Blk w3 rb 176 x.cells := h3
    exact pResN h3' lay_176 rfl (k w3 x r (Ch.new (hf1.trans hf2) hrb hc3) hl)
theorem Buffer_Drop {w : World} {γ : Col} {c b : Nat} {x : ChM} {r : List ChM} {K : Value → World → Prop} (hw : Wf w γ) (h : BufferR w γ c b (x :: r))
    (k : ∀ w', Keep (fun y => y = c) w γ w' γ → BufferR w' γ c b r → K (.bool true) w') : pCall P 204 [ptr b 0] K w := by
  refine c204 ?_
  unfold G204
  refine Buffer_Len h ?_
  have hne : ¬ ((r.length : Int) + 1 = 0) := by omega
  simp [hne]
  obtain ⟨g1, g2, ring, fr, g3, g4, g5, g6⟩ := h
  refine Buffer_at (i := 0) g5 (tail12 g3 _ _).1 g4 (by omega) fun w2 hf2 => ?_
  simp [Nat.mod_eq_of_lt g4, buildV_app, fillL, fillA, splice]
  have hlen : ∀ (ring : List ChM) (a b : Value), ring.length = 4 → (ring.flatMap ChM.cells ++ [a, b]).length = 14 := fun ring a b h => by rw [List.length_append, length_flatMap ChM.len, h]; rfl
  refine pStN ChM.zero.cells (hf2.blk g5 fun h => h) lay_176 rfl rfl (by rw [hlen _ _ _ g3]; omega) rfl fun w3 hc3 h3 => ?_
  rw [ring_splice (by omega)] at h3
  have g3' : (ring.set fr ChM.zero).length = 4 := by simpa using g3
  refine pLd1 h3 lay_3 (tail12 g3' _ _).1 ?_
  simp only [binV_add, pVal_some]
  rw [wrap_in (by omega) (by omega), binV_rem _ _ _ _ (by omega), pVal_some]
  have e : ((fr : Int) + 1).tmod 4 = (((fr + 1) % 4 : Nat) : Int) := by
    rw [Int.tmod_eq_emod_of_nonneg (by omega)]; omega
  rw [e]
  refine pSt1 h3 lay_3 rfl rfl (by rw [hlen _ _ _ g3']; omega) fun w4 hc4 h4 => ?_
  rw [(ring_set12 g3' _ _ _).1] at h4
  refine pLd1 h4 lay_3 (tail12 g3' _ _).2 ?_
  simp
  have e2 : IntKind.i64.wrap (r.length : Int) = r.length := by
    simp at g2
    rw [wrap_in (by omega) (by omega)]
  rw [e2]
  refine pSt1 h4 lay_3 rfl rfl (by rw [hlen _ _ _ g3']; omega) fun w5 hc5 h5 => ?_
  rw [(ring_set12 g3' _ _ _).2] at h5
  have hch : Ch (· = b) w w5 := ((hf2.ch (B := (· = b))).trans hc3 fun _ _ h => h).trans (hc4.trans hc5 fun _ _ h => h) fun _ _ h => h
  refine k w5 (hch.keep hw fun y _ hy => by rw [hy]; exact g1) ⟨g1, by simp at g2; omega, ring.set fr ChM.zero, (fr + 1) % 4, g3', by omega, h5, fun i hi => ?_⟩
  have := g6 (i + 1) (by simp; omega)
  simp at this g2
  rw [List.getElem?_set_ne (by omega)]
  have e3 : ((fr + 1) % 4 + i) % 4 = (fr + (i + 1)) % 4 := by omega
  rw [e3]
  exact this
end Go.Al

namespace Go.Al
open Go Go.Proofs
def bufPut (l : List ChM) (x : ChM) : Int × List ChM := if x.check ≠ 0 then (x.check, l) else if l.length = 4 then (8, l) else (0, l ++ [x])
theorem blen {ring : List ChM} {a b : Value} (h : ring.length = 4) : (ring.flatMap ChM.cells ++ [a, b]).length = 14 := by rw [List.length_append, length_flatMap ChM.len, h]; rfl
theorem Buffer_Put {w : World} {γ : Col} {c b : Nat} {l : List ChM} {x : ChM} {K : Value → World → Prop} (hw : Wf w γ) (hc : 0 < c) (h : BufferR w γ c b l)
    (k : ∀ w', Keep (fun y => y = c) w γ w' γ → BufferR w' γ c b (bufPut l x).2 → K (i64 (bufPut l x).1) w') : pCall P 208 [ptr b 0, x.val] K w := by
  refine c208 ?_
  unfold G208
  refine pNew_of x.cells (by rfl) fun vb w1 hb hbl hf1 h1 => ?_
  simp only [binV_ptr_eql kind_172, pVal_some, pIf_bool, Option.isNone_some, Bool.false_eq_true, if_false]
  refine pLdN x.cells h1 lay_176 (by simp [ChM.cells]) (by rfl) ?_
  refine Buffer_check fun w2 hf2 => ?_
  have hf02 := hf1.trans hf2
  have hB2 := h.keep (hf02.keep (C := fun _ => False) hw) fun h => h
  have hw2 : Wf w2 γ := (hf02.keep (C := fun _ => False) hw).wf
  by_cases gc : x.check = 0
  rotate_left
  · simp [gc]
    have e : bufPut l x = (x.check, l) := by unfold bufPut; rw [if_pos gc]
    have := k w2 (hf02.keep hw) (by rw [e]; exact hB2)
    rw [e] at this
    exact this
  simp [gc]
  refine Buffer_Full hB2 ?_
  by_cases g4 : l.length = 4
  · simp [g4]
    have e : bufPut l x = (8, l) := by unfold bufPut; rw [if_neg (by simpa using gc), if_pos g4]
    have := k w2 (hf02.keep hw) (by rw [e]; exact hB2)
    rw [e] at this
    exact this
  simp [g4]
  obtain ⟨a1, a2, ring, fr, a3, a4, a5, a6⟩ := id hB2
  refine pDraw_fr (fun w' => Blk w' b 218 (ring.flatMap ChM.cells ++ [i64 fr, i64 l.length]) ∧ Blk w' vb 176 x.cells) fun w3 hf3 hb3 hs3 => ⟨⟨hb3 _ _ _ a5, hb3 _ _ _ (hf2.blk h1 fun h => h)⟩, ?_⟩
  refine pHld1 (fun w' h => h.1) lay_3 (tail12 a3 _ _).2 ?_
  refine pHldN x.cells (fun w' h => h.2) lay_176 (by simp [ChM.cells]) (by rfl) ?_
  refine Buffer_at (hb3 _ _ _ a5) (tail12 a3 _ _).1 a4 (by omega) fun w4 hf4 => ?_
  simp
  have hb4 := hf4.blk (hb3 _ _ _ a5) fun h => h
  refine ⟨⟨hb4, hf4.blk (hb3 _ _ _ (hf2.blk h1 fun h => h)) fun h => h⟩, ?_⟩
  refine pStN x.cells hb4 lay_176 rfl rfl (by rw [blen a3]; omega) rfl fun w5 hc5 h5 => ?_
  rw [ring_splice (by omega)] at h5
  have a3' : (ring.set ((fr + l.length) % 4) x).length = 4 := by simpa using a3
  refine pLd1 h5 lay_3 (tail12 a3' _ _).2 ?_
  simp
  rw [wrap_succ (by omega)]
  refine pSt1 h5 lay_3 rfl rfl (by rw [blen a3']; omega) fun w6 hc6 h6 => ?_
  rw [(ring_set12 a3' _ _ _).2] at h6
  have hf24 := hf3.trans hf4
  have hk24 : Keep (fun y => y = c) w γ w4 γ := (hf02.trans hf24).keep hw
  have hch : Ch (· = b) w4 w6 := hc5.trans hc6 fun _ _ h => h
  have hk : Keep (fun y => y = c) w γ w6 γ := hk24.trans (hch.keep hk24.wf fun y _ hy => by rw [hy]; exact a1) fun y hy => hy
  have e : bufPut l x = (0, l ++ [x]) := by unfold bufPut; rw [if_neg (by simpa using gc), if_neg g4]
  have := k w6 hk (by
    rw [e]
    refine ⟨a1, by simp; omega, ring.set ((fr + l.length) % 4) x, fr, a3', a4, by simpa using h6, fun i hi => ?_⟩
    simp at hi
    by_cases hil : i = l.length
    · subst hil
      rw [List.getElem?_set_self (by omega)]; simp
    · rw [List.getElem?_set_ne (by omega), a6 i (by omega), List.getElem?_append_left (by omega)])
  rw [e] at this
  exact this
/-- The last change of a place. -/
def bufLast (l : List ChM) (place : Int) : Option ChM := l.reverse.find? fun x => decide (x.place = place)
theorem bufLast_step {l : List ChM} {place : Int} {i : Nat} {x : ChM} (hx : l[i]? = some x) : (l.take (i + 1)).reverse.find? (fun x => decide (x.place = place)) = if x.place = place then some x else (l.take i).reverse.find? (fun x => decide (x.place = place)) := by
  rw [List.take_add_one, hx]
  simp [List.find?_cons]
  split <;> simp_all
theorem Buffer_Last {w : World} {γ : Col} {c b : Nat} {l : List ChM} {place : Int} {K : Value → World → Prop} (hw : Wf w γ) (h : BufferR w γ c b l)
    (k0 : ∀ w', Fr w w' → bufLast l place = none → K (.tuple #[ChM.zero.val, .bool false]) w') (k : ∀ w' x, Fr w w' → bufLast l place = some x → K (.tuple #[x.val, .bool true]) w') : pCall P 119 [ptr b 0, i64 place] K w := by
  refine c119 ?_
  unfold G119
  refine pAlloc_of [i64 0, i64 0, sV []] zero_176 rfl fun rb w1 hrb hrbl hf1 h1 => ?_
  have hB1 := h.keep (hf1.keep (C := fun _ => False) hw) fun h => h
  refine Buffer_Len hB1 ?_
  have h2 := h.2.1
  simp
  rw [wrap_in (by omega) (by omega)]
  refine pLoop1_of (fun a w' => ∃ i : Nat, a = i64 ((i : Int) - 1) ∧ i ≤ l.length ∧ Fr w w' ∧ Blk w' rb 176 [i64 0, i64 0, sV []] ∧ (l.take i).reverse.find? (fun x => decide (x.place = place)) = bufLast l place) (fun a _ => (num a + 1).toNat) ?_ ?_
  · exact ⟨l.length, rfl, Nat.le_refl _, hf1, h1, by rw [List.take_of_length_le (Nat.le_refl _)]; rfl⟩
  rintro _ w2 ⟨i, rfl, hi, hf2, hb2, hfi⟩
  have hB2 := h.keep (hf2.keep (C := fun _ => False) hw) fun h => h
  generalize hag : (fun (a' : Value) (w' : World) => (∃ i : Nat, a' = i64 ((i : Int) - 1) ∧ i ≤ l.length ∧ Fr w w' ∧ Blk w' rb 176 [i64 0, i64 0, sV []] ∧ (l.take i).reverse.find? (fun x => decide (x.place = place)) = bufLast l place) ∧ (num a' + 1).toNat < (num (i64 ((i : Int) - 1)) + 1).toNat) = ag
  by_cases h0 : 1 ≤ i
  · have h0' : (1 : Int) ≤ i := by omega
    simp [h0']
    obtain ⟨n, rfl⟩ : ∃ n, i = n + 1 := ⟨i - 1, by omega⟩
    have e1 : (((n + 1 : Nat) : Int) - 1) = (n : Int) := by omega
    rw [e1]
    obtain ⟨a1, a2, ring, fr, a3, a4, a5, a6⟩ := id hB2
    refine Buffer_at a5 (tail12 a3 _ _).1 a4 (by omega) fun w3 hf3 => ?_
    obtain ⟨x, hx⟩ : ∃ x, l[n]? = some x := ⟨l[n], List.getElem?_eq_getElem (by omega)⟩
    have hr := a6 n (by omega)
    rw [hx] at hr
    simp
    refine pLdN x.cells (hf3.blk a5 fun h => h) lay_176 (by rw [blen a3]; omega) (ring_take hr _ _) ?_
    refine pAlloc_of [i64 0, i64 0, sV []] zero_176 rfl fun cb w4 hcb hcbl hf4 h4 => ?_
    refine pStN x.cells h4 lay_176 rfl rfl (by simp) rfl fun w5 hc5 h5 => ?_
    have h5' : Blk w5 cb 176 x.cells := h5
    have hf25 : Fr w2 w5 := Ch.trans' (hf3.trans hf4) (by rw [hcb]; exact hf3.size) hc5
    simp
    refine pLd1 h5' lay_3 rfl ?_
    simp
    have hst := bufLast_step (place := place) hx
    rw [hfi] at hst
    have hrb5 := hf25.blk hb2 fun h => h
    by_cases hp : x.place = place
    · simp [hp]
      refine pLdN x.cells h5' lay_176 (by simp [ChM.cells]) (by rfl) ?_
      refine pStN x.cells hrb5 lay_176 rfl rfl (by simp) rfl fun w6 hc6 h6 => ?_
      have h6' : Blk w6 rb 176 x.cells := h6
      rw [if_pos hp] at hst
      exact pResN h6' lay_176 rfl (k w6 x (Ch.trans' (Fr.trans hf2 hf25) (by omega) hc6) hst)
    · simp [hp]
      rw [if_neg hp] at hst
      rw [wrap_in (by omega) (by omega), ← hag]
      exact ⟨⟨n, rfl, by omega, Fr.trans hf2 hf25, hrb5, hst.symm⟩, by simp only [num, i64]; omega⟩
  · have h0' : ¬ (1 : Int) ≤ i := by omega
    simp [h0', buildV_app, fillL, fillA, splice]
    obtain rfl : i = 0 := by omega
    refine pStN ChM.zero.cells hb2 lay_176 rfl rfl (by simp) rfl fun w3 hc3 h3 => ?_
    have h3' : Blk w3 rb 176 ChM.zero.cells := h3
    exact pResN h3' lay_176 rfl (k0 w3 (Ch.trans' hf2 (by omega) hc3) (by rw [← hfi]; rfl))
end Go.Al

namespace Go.Al
open Go Go.Proofs
structure TableM where
  pages : Nat
  spots : List (Option (Nat × Nat))
  rows : List (List Int)
  worth : List Int
def cS : Option (Nat × Nat) → List Value
  | none => [i64 0, i64 0, .bool false]
  | some (b, p) => [i64 b, i64 p, .bool true]
theorem cS_len (x : Option (Nat × Nat)) : (cS x).length = 3 := by cases x <;> rfl
theorem cS_one (x : Option (Nat × Nat)) : (cS x).all (·.oneCell') = true := by cases x <;> rfl
def cRow (x : List Int × Value) : List Value := [x.2]
theorem cRow_len (x : List Int × Value) : (cRow x).length = 1 := rfl
def RowsR (w : World) (γ : Col) (c : Nat) (v : Value) (rows : List (List Int)) : Prop :=
  ∃ xs : List (List Int × Value), xs.map (·.1) = rows ∧ Sl w 1 cRow v xs ∧ (∀ b, live v = some b → γ b = c + 1) ∧ ∀ (i : Nat) (x : List Int × Value), xs[i]? = some x → Ints w x.2 x.1 ∧ ∀ b, live x.2 = some b → γ b = c + 100 + i
theorem RowsR.keep {w w' : World} {γ γ' : Col} {c : Nat} {v : Value} {rows : List (List Int)} {C : Nat → Prop} (h : RowsR w γ c v rows) (hk : Keep C w γ w' γ') (h1 : ¬ C (c + 1)) (h100 : ∀ i, i < rows.length → ¬ C (c + 100 + i)) : RowsR w' γ' c v rows := by
  obtain ⟨xs, a1, a2, a3, a4⟩ := h
  refine ⟨xs, a1, a2.ch hk.ch fun b hb => by rw [a3 b hb]; exact h1, fun b hb => (hk.col b (a2.live_lt hb)).trans (a3 b hb), fun i x hx => ?_⟩
  have hi : i < rows.length := by rw [← a1, List.length_map]; exact (List.getElem?_eq_some_iff.1 hx).1
  obtain ⟨g1, g2⟩ := a4 i x hx
  exact ⟨g1.ch hk.ch fun b hb => by rw [g2 b hb]; exact h100 i hi, fun b hb => (hk.col b (g1.live_lt hb)).trans (g2 b hb)⟩
theorem RowsR.at {w : World} {γ : Col} {c : Nat} {v : Value} {rows : List (List Int)} (h : RowsR w γ c v rows) {i : Nat} {r : List Int} (hi : rows[i]? = some r) :
    ∃ b o T l rv, (γ b = c + 1 ∧ live v = some b) ∧ Blk w b T l ∧ (∀ t k, idxP P t = some (none, 1) → indexV P t v (.int k i) = some (ptr b o)) ∧ l[o]? = some rv ∧ Ints w rv r ∧ (∀ b, live rv = some b → γ b = c + 100 + i) ∧
      (∀ w1 γ1 r', Keep (fun y => y = c + 100 + i) w γ w1 γ1 → Ints w1 rv r' → RowsR w1 γ1 c v (rows.set i r')) := by
  obtain ⟨xs, a1, a2, a3, a4⟩ := h
  have hil : i < xs.length := by rw [← List.length_map (f := (·.1)), a1]; exact (List.getElem?_eq_some_iff.1 hi).1
  have hxi : xs[i]? = some xs[i] := List.getElem?_eq_getElem hil
  have hp : xs[i].1 = r := by
    have : (xs.map (·.1))[i]? = some xs[i].1 := by rw [List.getElem?_map, hxi]; rfl
    rw [a1, hi] at this
    exact (Option.some.inj this).symm
  obtain ⟨b, o, T, l, hlv, hb, hx, ho, hc, hback⟩ := Sl.at a2 hxi (by omega)
  obtain ⟨g1, g2⟩ := a4 i _ hxi
  refine ⟨b, o, T, l, xs[i].2, ⟨a3 b hlv, hlv⟩, hb, hx, take_one hc, by rw [← hp]; exact g1, g2, ?_⟩
  intro w1 γ1 r' hk hr
  have hb1 : Blk w1 b T l := hk.blk hb (by rw [a3 b hlv]; omega)
  have hsp : l = splice l o (cRow (r', xs[i].2)) := by
    have : cRow (r', xs[i].2) = cRow xs[i] := rfl
    rw [this, show cRow xs[i] = [xs[i].2] from rfl, splice_one _ _ _ (by omega), set_get (take_one hc)]
  refine ⟨xs.set i (r', xs[i].2), by rw [List.map_set, a1], hback w1 (r', xs[i].2) l hb1 hsp, fun b hb => (hk.col b (a2.live_lt hb)).trans (a3 b hb), fun j y hy => ?_⟩
  rw [List.getElem?_set] at hy
  split at hy
  · rename_i hij
    subst hij
    cases hy
    exact ⟨hr, fun b hb => (hk.col b (g1.live_lt hb)).trans (g2 b hb)⟩
  · rename_i hij
    obtain ⟨q1, q2⟩ := a4 j y hy
    exact ⟨q1.ch hk.ch fun b hb => by rw [q2 b hb]; omega, fun b hb => (hk.col b (q1.live_lt hb)).trans (q2 b hb)⟩
/-- A table that may be. -/
structure TableM.ok (t : TableM) : Prop where
  pages : t.pages ≤ 16
  spots : t.spots.length = 64
  worth : t.worth.length = t.rows.length
  few : t.rows.length ≤ 64
  row : ∀ r ∈ t.rows, r.length = t.pages
  spot : ∀ b p, some (b, p) ∈ t.spots → b < t.rows.length ∧ p < t.pages
/-- The table in memory, of the colours from c on. -/
def TableR (w : World) (γ : Col) (c b : Nat) (t : TableM) : Prop :=
  γ b = c ∧ t.ok ∧ ∃ pv wv, Blk w b 226 ([i64 t.pages] ++ (t.spots.flatMap cS ++ [pv, wv])) ∧ RowsR w γ c pv t.rows ∧ Ints w wv t.worth ∧ ∀ x, live wv = some x → γ x = c + 2
/-- A table's colours. -/
def tabC (c x : Nat) : Prop := c ≤ x ∧ x < c + 200
theorem TableR.keep {w w' : World} {γ γ' : Col} {c b : Nat} {t : TableM} {C : Nat → Prop} (h : TableR w γ c b t) (hk : Keep C w γ w' γ') (hC : ∀ x, tabC c x → ¬ C x) : TableR w' γ' c b t := by
  obtain ⟨h1, h2, pv, wv, h3, h4, h5, h6⟩ := h
  have hf := h2.few
  refine ⟨(hk.col b h3.lt).trans h1, h2, pv, wv, hk.blk h3 (by rw [h1]; exact hC _ (by unfold tabC; omega)), h4.keep hk (hC _ (by unfold tabC; omega)) (fun i hi => hC _ (by unfold tabC; omega)),
    h5.ch hk.ch fun x hx => by rw [h6 x hx]; exact hC _ (by unfold tabC; omega), fun x hx => (hk.col x (h5.live_lt hx)).trans (h6 x hx)⟩
theorem tabtail {t : TableM} (h : t.ok) (pv wv : Value) : ([i64 t.pages] ++ (t.spots.flatMap cS ++ [pv, wv]))[193]? = some pv ∧ ([i64 t.pages] ++ (t.spots.flatMap cS ++ [pv, wv]))[194]? = some wv := by
  have hl : (t.spots.flatMap cS).length = 192 := by rw [length_flatMap cS_len, h.spots]
  have hl2 : ([i64 t.pages] ++ t.spots.flatMap cS).length = 193 := by rw [List.length_append, hl]; rfl
  rw [← List.append_assoc]
  constructor
  · rw [List.getElem?_append_right (by omega), hl2, Nat.sub_self]; rfl
  · rw [List.getElem?_append_right (by omega), hl2, show 194 - 193 = 1 by omega]; rfl
theorem tablen {t : TableM} (h : t.ok) (pv wv : Value) : ([i64 t.pages] ++ (t.spots.flatMap cS ++ [pv, wv])).length = 195 := by
  have hl : (t.spots.flatMap cS).length = 192 := by rw [length_flatMap cS_len, h.spots]
  simp only [List.length_append, hl, List.length_cons, List.length_nil]
def TableM.is (t : TableM) (b p : Int) : Bool := decide (0 ≤ b ∧ b < t.worth.length ∧ 0 ≤ p ∧ p < t.pages)
def TableM.row (t : TableM) (b : Nat) : List Int := (t.rows[b]?).getD []
def TableM.cell (t : TableM) (b p : Nat) : Int := ((t.row b)[p]?).getD (-1)
def TableM.place (t : TableM) (b p : Int) : Int := if t.is b p then t.cell b.toNat p.toNat else -1
def TableM.at (t : TableM) (place : Int) : Option (Nat × Nat) := if 0 ≤ place ∧ place < 64 then ((t.spots[place.toNat]?).getD none) else none
def TableM.worthOf (t : TableM) (b : Int) : Int := if t.is b 0 then (t.worth[b.toNat]?).getD 0 else 0
theorem Table_is {w : World} {γ : Col} {c bt : Nat} {t : TableM} {b p : Int} {K : Value → World → Prop} (h : TableR w γ c bt t) (k : K (.bool (t.is b p)) w) : pCall P 211 [ptr bt 0, i64 b, i64 p] K w := by
  refine c211 ?_
  unfold G211
  obtain ⟨h1, h2, pv, wv, h3, h4, h5, h6⟩ := h
  unfold TableM.is at k
  simp [binV_ptr_neq]
  by_cases g1 : 0 ≤ b
  rotate_left
  · simp [g1] at k ⊢; exact k
  simp [g1]
  refine pLd1 h3 lay_24 (tabtail h2 _ _).2 ?_
  rw [h5.len (by simp), pVal_some]
  simp
  by_cases g2 : b < t.worth.length
  rotate_left
  · simp [g1, g2] at k ⊢; exact k
  simp [g2]
  by_cases g3 : 0 ≤ p
  rotate_left
  · simp [g1, g2, g3] at k ⊢; exact k
  simp [g3]
  refine pLd1 h3 lay_3 rfl ?_
  simp [g1, g2, g3] at k ⊢
  exact k
theorem TableM.is_true {t : TableM} {b p : Int} (h : t.is b p = true) : ∃ b' p' : Nat, b = b' ∧ p = p' ∧ b' < t.worth.length ∧ p' < t.pages := by
  unfold TableM.is at h
  simp at h
  exact ⟨b.toNat, p.toNat, by omega, by omega, by omega, by omega⟩
theorem TableM.ok.cell {t : TableM} (h : t.ok) {b p : Nat} (hb : b < t.worth.length) (hp : p < t.pages) : ∃ r, t.rows[b]? = some r ∧ p < r.length ∧ t.cell b p = r[p]?.getD (-1) := by
  have hbl : b < t.rows.length := by rw [← h.worth]; exact hb
  refine ⟨t.rows[b], List.getElem?_eq_getElem hbl, by rw [h.row _ (List.getElem_mem hbl)]; exact hp, ?_⟩
  unfold TableM.cell TableM.row
  rw [List.getElem?_eq_getElem hbl]
  rfl
/-- A page's owner is read. -/
theorem Table_cell {w : World} {γ : Col} {c : Nat} {t : TableM} {pv : Value} {b p : Nat} {K : Value → World → Prop} (ok : t.ok) (h4 : RowsR w γ c pv t.rows) (hb : b < t.worth.length) (hp : p < t.pages) (k : K (i64 (t.cell b p)) w) :
    (pVal (indexV P 224 pv (i64 b)) fun v17 => pLd P 24 v17 fun v18 => pVal (indexV P 24 v18 (i64 p)) fun v20 => pLd P 3 v20 K) w := by
  obtain ⟨r, hr, hpl, hc⟩ := ok.cell hb hp
  obtain ⟨rb, ro, rT, rl, rv, _, hrb, hidx, hro, hri, _, _⟩ := h4.at hr
  rw [hidx _ _ (by simp), pVal_some]
  refine pLd1 hrb lay_24 hro ?_
  refine hri.get hpl ?_
  rw [hc, List.getElem?_eq_getElem hpl] at k
  exact k
theorem Table_Place {w : World} {γ : Col} {c bt : Nat} {t : TableM} {b p : Int} {K : Value → World → Prop} (h : TableR w γ c bt t) (k : K (i64 (t.place b p)) w) : pCall P 238 [ptr bt 0, i64 b, i64 p] K w := by
  refine c238 ?_
  unfold G238
  refine Table_is h ?_
  unfold TableM.place at k
  by_cases g : t.is b p = true
  rotate_left
  · simp [g] at k ⊢; exact k
  simp [g] at k ⊢
  obtain ⟨b', p', rfl, rfl, hb, hp⟩ := TableM.is_true g
  obtain ⟨h1, h2, pv, wv, h3, h4, h5, h6⟩ := h
  refine pLd1 h3 lay_224 (tabtail h2 _ _).1 ?_
  exact Table_cell h2 h4 hb hp (by simpa using k)
theorem Table_Worth {w : World} {γ : Col} {c bt : Nat} {t : TableM} {b : Int} {K : Value → World → Prop} (h : TableR w γ c bt t) (k : K (i64 (t.worthOf b)) w) : pCall P 258 [ptr bt 0, i64 b] K w := by
  refine c258 ?_
  unfold G258
  refine Table_is h ?_
  unfold TableM.worthOf at k
  by_cases g : t.is b 0 = true
  rotate_left
  · simp [g] at k ⊢; exact k
  simp [g] at k ⊢
  obtain ⟨b', p', rfl, hp0, hb, hp⟩ := TableM.is_true g
  obtain ⟨h1, h2, pv, wv, h3, h4, h5, h6⟩ := h
  refine pLd1 h3 lay_24 (tabtail h2 _ _).2 ?_
  refine h5.get hb ?_
  simp [List.getElem?_eq_getElem hb] at k
  exact k
theorem Table_At {w : World} {γ : Col} {c bt : Nat} {t : TableM} {place : Int} {K : Value → World → Prop} (h : TableR w γ c bt t)
    (k : ∀ w', Fr w w' → K (.tuple (cS (t.at place)).toArray) w') : pCall P 120 [ptr bt 0, i64 place] K w := by
  refine c120 ?_
  unfold G120
  obtain ⟨h1, h2, pv, wv, h3, h4, h5, h6⟩ := h
  unfold TableM.at at k
  refine pJoin0_in ?_
  simp [binV_ptr_eql]
  by_cases g1 : place < 0
  · simp [g1]
    have := k w (Ch.refl _ _)
    rw [if_neg (by omega)] at this
    exact this
  simp [g1]
  by_cases g2 : 64 ≤ place
  · simp [g2]
    have := k w (Ch.refl _ _)
    rw [if_neg (by omega)] at this
    exact this
  simp [g2]
  obtain ⟨n, rfl⟩ : ∃ n : Nat, place = n := ⟨place.toNat, by omega⟩
  rw [if_pos (by omega)]
  simp
  obtain ⟨x, hx⟩ : ∃ x, t.spots[n]? = some x := ⟨t.spots[n]'(by rw [h2.spots]; omega), List.getElem?_eq_getElem _⟩
  have htake : (([i64 t.pages] ++ (t.spots.flatMap cS ++ [pv, wv])).drop (1 + n * 3)).take 3 = cS x := by
    apply List.ext_getElem?
    intro j
    rw [List.getElem?_take]
    split
    · rename_i hj
      rw [List.getElem?_drop, Nat.add_assoc]
      exact flat_get cS_len hx [i64 t.pages] [pv, wv] hj
    · rw [List.getElem?_eq_none (by rw [cS_len]; omega)]
  refine pLdN (cS x) h3 lay_222 (by rw [tablen h2]; omega) htake ?_
  refine pAlloc_of [i64 0, i64 0, .bool false] zero_222 rfl fun sb w2 hsb hsbl hf2 h2' => ?_
  refine pStN (cS x) h2' lay_222 rfl (cS_len x) (by simp) (cS_one x) fun w3 hc3 h3' => ?_
  have hs3 : Blk w3 sb 222 (cS x) := by
    have e : splice [i64 0, i64 0, .bool false] 0 (cS x) = cS x := by cases x <;> rfl
    rw [e] at h3'; exact h3'
  have hf3 : Fr w w3 := Ch.new hf2 hsb hc3
  refine pDraw_fr (fun w' => Blk w' sb 222 (cS x)) fun w4 hf4 hb4 hs4 => ⟨hb4 _ _ _ hs3, ?_⟩
  have e0 : ((t.spots[n]?).getD none) = x := by rw [hx]; rfl
  have := k w4 (hf3.trans hf4)
  rw [if_pos (by omega)] at this
  simp only [Int.toNat_natCast, e0] at this
  simp
  cases x with
  | none =>
    refine pHld1 (fun w' h => h) lay_3 rfl ?_
    refine pHld1 (fun w' h => h) lay_3 rfl ?_
    refine pHld1 (fun w' h => h) lay_4 rfl ?_
    exact this
  | some y =>
    refine pHld1 (fun w' h => h) lay_3 rfl ?_
    refine pHld1 (fun w' h => h) lay_3 rfl ?_
    refine pHld1 (fun w' h => h) lay_4 rfl ?_
    exact this
end Go.Al

namespace Go.Al
open Go Go.Proofs
/-- An element is written. -/
theorem Ints.put {w : World} {v : Value} {xs : List Int} {i : Nat} {x : Int} {K : World → Prop} (h : Ints w v xs) (hi : i < xs.length) (k : ∀ w1, Ch (fun b => live v = some b) w w1 → Ints w1 v (xs.set i x) → K w1) :
    (pVal (indexV P 24 v (i64 i)) fun a => pSt P 3 a (i64 x) K) w := by
  obtain ⟨b, o, T, l, hl, hb, hx, ho, hc, hback⟩ := Sl.at h (List.getElem?_eq_getElem hi) (by omega)
  rw [hx _ _ (by simp), pVal_some]
  refine pSt1 hb lay_3 rfl rfl (by omega) fun w1 hc1 h1 => ?_
  refine k w1 (hc1.mono fun b' _ he => by rw [he]; exact hl) (hback w1 x _ h1 ?_)
  rw [show cI x = [i64 x] from rfl, splice_one _ _ _ (by omega)]
theorem Table_wcell {w : World} {γ : Col} {c : Nat} {pv : Value} {rows : List (List Int)} {r : List Int} {b p : Nat} {x : Int} {K : World → Prop} (hw : Wf w γ) (h4 : RowsR w γ c pv rows) (hb : rows[b]? = some r) (hp : p < r.length)
    (k : ∀ w1, Keep (fun y => y = c + 100 + b) w γ w1 γ → RowsR w1 γ c pv (rows.set b (r.set p x)) → K w1) :
    (pVal (indexV P 224 pv (i64 b)) fun v17 => pLd P 24 v17 fun v18 => pVal (indexV P 24 v18 (i64 p)) fun v20 => pSt P 3 v20 (i64 x) K) w := by
  obtain ⟨rb, ro, rT, rl, rv, _, hrb, hidx, hro, hri, hrc, hback⟩ := h4.at hb
  rw [hidx _ _ (by simp), pVal_some]
  refine pLd1 hrb lay_24 hro ?_
  refine hri.put hp fun w1 hc1 h1 => ?_
  have hk : Keep (fun y => y = c + 100 + b) w γ w1 γ := hc1.keep hw fun y _ hy => hrc y hy
  exact k w1 hk (hback w1 γ _ hk h1)
def TableM.clear (t : TableM) (place : Int) : TableM :=
  match t.at place with
  | none => t
  | some (b, p) => { t with spots := t.spots.set place.toNat none, rows := t.rows.set b ((t.row b).set p (-1)), worth := t.worth.set b (IntKind.i64.wrap ((t.worth[b]?).getD 0 - 1)) }
theorem TableM.at_some {t : TableM} (ok : t.ok) {place : Int} {b p : Nat} (h : t.at place = some (b, p)) : ∃ n : Nat, place = n ∧ n < 64 ∧ t.spots[n]? = some (some (b, p)) ∧ b < t.rows.length ∧ p < t.pages ∧ ∃ r, t.rows[b]? = some r ∧ t.row b = r ∧ p < r.length := by
  unfold TableM.at at h
  split at h
  · rename_i hp
    have hl : place.toNat < t.spots.length := by rw [ok.spots]; omega
    rw [List.getElem?_eq_getElem hl] at h
    have hs : t.spots[place.toNat]? = some (some (b, p)) := by rw [List.getElem?_eq_getElem hl]; exact congrArg some h
    obtain ⟨g1, g2⟩ := ok.spot b p (List.mem_of_getElem? hs)
    refine ⟨place.toNat, by omega, by omega, hs, g1, g2, t.rows[b], List.getElem?_eq_getElem g1, ?_, by rw [ok.row _ (List.getElem_mem g1)]; exact g2⟩
    unfold TableM.row
    rw [List.getElem?_eq_getElem g1]; rfl
  · cases h
theorem TableM.ok.clear {t : TableM} (ok : t.ok) (place : Int) : (t.clear place).ok := by
  unfold TableM.clear
  cases h : t.at place with
  | none => exact ok
  | some y =>
    obtain ⟨b, p⟩ := y
    obtain ⟨n, rfl, hn, hs, hb, hp, r, hr, hrow, hpl⟩ := TableM.at_some ok h
    refine ⟨ok.pages, by simpa using ok.spots, by simpa using ok.worth, by simpa using ok.few, fun q hq => ?_, fun b' p' hm => ?_⟩
    · rcases List.mem_or_eq_of_mem_set hq with hq | rfl
      · exact ok.row q hq
      · rw [List.length_set, hrow]; exact ok.row r (List.mem_of_getElem? hr)
    · simp only [List.length_set]
      rcases List.mem_or_eq_of_mem_set hm with hm | hm
      · exact ok.spot b' p' hm
      · cases hm
theorem spot_set {t : TableM} (ok : t.ok) {n : Nat} (hn : n < 64) (y : Option (Nat × Nat)) (pv wv : Value) :
    splice ([i64 t.pages] ++ (t.spots.flatMap cS ++ [pv, wv])) (1 + n * 3) (cS y) = [i64 t.pages] ++ ((t.spots.set n y).flatMap cS ++ [pv, wv]) :=
  flat_set cS_len (by rw [ok.spots]; exact hn) y [i64 t.pages] [pv, wv]
theorem Table_Clear {w : World} {γ : Col} {c bt : Nat} {t : TableM} {place : Int} {K : Value → World → Prop} (hw : Wf w γ) (h : TableR w γ c bt t)
    (k : ∀ w', Keep (tabC c) w γ w' γ → TableR w' γ c bt (t.clear place) → K (.bool (t.at place).isSome) w') : pCall P 139 [ptr bt 0, i64 place] K w := by
  refine c139 ?_
  unfold G139
  refine Table_At h fun w1 hf1 => ?_
  have h' := h.keep (hf1.keep (C := fun _ => False) hw) fun _ _ h => h
  have hw1 : Wf w1 γ := (hf1.keep (C := fun _ => False) hw).wf
  cases ha : t.at place with
  | none =>
    simp [cS]
    have e : t.clear place = t := by unfold TableM.clear; rw [ha]
    have := k w1 (hf1.keep hw) (by rw [e]; exact h')
    rw [ha] at this
    exact this
  | some y =>
    obtain ⟨b, p⟩ := y
    obtain ⟨h1, h2, pv, wv, h3, h4, h5, h6⟩ := h'
    obtain ⟨n, rfl, hn, hs, hb, hp, r, hr, hrow, hpl⟩ := TableM.at_some h2 ha
    have hfew := h2.few
    have hbw : b < t.worth.length := by rw [h2.worth]; exact hb
    simp only [cS, extractV_tuple, List.getElem?_toArray, List.getElem?_cons_zero, List.getElem?_cons_succ, pVal_some, pIf_bool, if_true, pNil_ptr]
    simp
    refine pLd1 h3 lay_224 (tabtail h2 _ _).1 ?_
    refine Table_wcell hw1 h4 hr hpl fun w2 hk2 hr2 => ?_
    have h3' := hk2.blk h3 (by rw [h1]; omega)
    refine pLd1 h3' lay_24 (tabtail h2 _ _).2 ?_
    have h5' : Ints w2 wv t.worth := h5.ch hk2.ch fun x hx => by rw [h6 x hx]; omega
    refine h5'.get hbw ?_
    simp
    refine h5'.put hbw fun w3 hc3 h53 => ?_
    have hk3 : Keep (fun y => y = c + 2) w2 γ w3 γ := hc3.keep hk2.wf fun x _ hx => h6 x hx
    have h33 := hk3.blk h3' (by rw [h1]; omega)
    have hr3 := hr2.keep hk3 (by omega) (by omega)
    simp [buildV_app, fillL, fillA, splice]
    have hn' : (n : Int) < 64 := by omega
    simp only [hn', if_true, pVal_some]
    refine pStN (cS none) h33 lay_222 rfl rfl (by rw [tablen h2]; omega) rfl fun w4 hc4 h34 => ?_
    have hk4 : Keep (fun y => y = c) w3 γ w4 γ := hc4.keep hk3.wf fun x _ hx => by rw [hx]; exact h1
    rw [spot_set h2 hn] at h34
    have hk : Keep (tabC c) w γ w4 γ := (((hf1.keep hw).trans hk2 fun y hy => by unfold tabC; omega).trans hk3 fun y hy => by unfold tabC; omega).trans hk4 fun y hy => by unfold tabC; omega
    have e : t.clear n = { t with spots := t.spots.set n none, rows := t.rows.set b (r.set p (-1)), worth := t.worth.set b (IntKind.i64.wrap (t.worth[b] - 1)) } := by
      unfold TableM.clear; rw [ha]; simp [hrow, List.getElem?_eq_getElem hbw]
    have := k w4 hk (by
      have hok := h2.clear n
      rw [e] at hok ⊢
      exact ⟨h1, hok, pv, wv, h34, hr3.keep hk4 (by omega) (by omega), h53.ch hk4.ch fun x hx => by rw [h6 x hx]; omega, h6⟩)
    rw [ha] at this
    exact this
def TableM.set (t : TableM) (place b p : Int) : Int × TableM :=
  if ¬ (0 ≤ place ∧ place < 64) ∨ t.is b p = false then (5, t) else
  if t.cell b.toNat p.toNat ≠ -1 ∧ t.cell b.toNat p.toNat ≠ place then (7, t) else
  let u := t.clear place
  (0, { u with spots := u.spots.set place.toNat (some (b.toNat, p.toNat)), rows := u.rows.set b.toNat ((u.row b.toNat).set p.toNat place), worth := u.worth.set b.toNat (IntKind.i64.wrap ((u.worth[b.toNat]?).getD 0 + 1)) })
theorem TableM.clear_len (t : TableM) (place : Int) : (t.clear place).rows.length = t.rows.length ∧ (t.clear place).worth.length = t.worth.length ∧ (t.clear place).pages = t.pages := by
  unfold TableM.clear
  split <;> simp
theorem Table_Set {w : World} {γ : Col} {c bt : Nat} {t : TableM} {place b p : Int} {K : Value → World → Prop} (hw : Wf w γ) (h : TableR w γ c bt t)
    (k : ∀ w', Keep (tabC c) w γ w' γ → TableR w' γ c bt (t.set place b p).2 → K (i64 (t.set place b p).1) w') : pCall P 175 [ptr bt 0, i64 place, i64 b, i64 p] K w := by
  refine c175 ?_
  unfold G175
  have err5 : (¬ (0 ≤ place ∧ place < 64) ∨ t.is b p = false) → K (i64 5) w := fun hc => by
    have e : t.set place b p = (5, t) := by unfold TableM.set; rw [if_pos hc]
    have := k w (Keep.refl hw) (by rw [e]; exact h)
    rw [e] at this
    exact this
  refine join0 (fun w' => w' = w ∧ 0 ≤ place ∧ place < 64 ∧ t.is b p = true) ?_ ?_
  rotate_left
  · intro J hJ
    simp [binV_ptr_eql]
    by_cases g1 : place < 0
    · simp [g1]; exact err5 (.inl (by omega))
    simp [g1]
    by_cases g2 : 64 ≤ place
    · simp [g2]; exact err5 (.inl (by omega))
    simp [g2]
    refine Table_is h ?_
    simp
    by_cases g3 : t.is b p = true
    · simp [g3]; exact hJ _ ⟨rfl, by omega, by omega, g3⟩
    · simp [g3]; exact err5 (.inr (by simpa using g3))
  rintro w0 ⟨rfl, g1, g2, g3⟩
  obtain ⟨b', p', rfl, rfl, hb, hp⟩ := TableM.is_true g3
  obtain ⟨n, rfl⟩ : ∃ n : Nat, place = n := ⟨place.toNat, by omega⟩
  obtain ⟨h1, h2, pv, wv, h3, h4, h5, h6⟩ := id h
  refine join0 (fun w' => w' = w0 ∧ ¬ (t.cell b' p' ≠ -1 ∧ t.cell b' p' ≠ n)) ?_ ?_
  rotate_left
  · intro J hJ
    simp
    refine pLd1 h3 lay_224 (tabtail h2 _ _).1 ?_
    refine Table_cell h2 h4 hb hp ?_
    simp
    by_cases g4 : t.cell b' p' = -1
    · simp [g4]; exact hJ _ ⟨rfl, by simp [g4]⟩
    simp [g4]
    by_cases g5 : t.cell b' p' = n
    · simp [g5]; exact hJ _ ⟨rfl, by simp [g5]⟩
    simp [g5]
    have e : t.set n b' p' = (7, t) := by unfold TableM.set; rw [if_neg (by simp [g3]; omega), if_pos (by simpa using ⟨g4, g5⟩)]
    have := k w0 (Keep.refl hw) (by rw [e]; exact h)
    rw [e] at this
    exact this
  rintro w1 ⟨rfl, g4⟩
  refine Table_Clear (place := n) hw h fun w2 hk2 hT2 => ?_
  obtain ⟨l1, l2, l3⟩ := t.clear_len n
  have e : t.set n b' p' = (0, { t.clear n with spots := (t.clear n).spots.set n (some (b', p')), rows := (t.clear n).rows.set b' (((t.clear n).row b').set p' n), worth := (t.clear n).worth.set b' (IntKind.i64.wrap (((t.clear n).worth[b']?).getD 0 + 1)) }) := by
    unfold TableM.set; rw [if_neg (by simp [g3]; omega), if_neg (by simpa using g4)]; rfl
  generalize hu : t.clear n = u at *
  obtain ⟨a1, a2, upv, uwv, a3, a4, a5, a6⟩ := hT2
  have hbu : b' < u.worth.length := by rw [l2]; exact hb
  have hpu : p' < u.pages := by rw [l3]; exact hp
  have hfew := a2.few
  have hbr : b' < u.rows.length := by rw [← a2.worth]; exact hbu
  obtain ⟨r, hr, hpl, _⟩ := a2.cell hbu hpu
  have hrow : u.row b' = r := by unfold TableM.row; rw [hr]; rfl
  have hn' : (n : Int) < 64 := g2
  simp [buildV_app, fillL, fillA, splice]
  simp only [hn', if_true, pVal_some]
  refine pStN (cS (some (b', p'))) a3 lay_222 rfl rfl (by rw [tablen a2]; omega) rfl fun w3 hc3 h33 => ?_
  rw [spot_set a2 (by omega)] at h33
  have hk3 : Keep (fun y => y = c) w2 γ w3 γ := hc3.keep hk2.wf fun x _ hx => by rw [hx]; exact a1
  have hr3 := a4.keep hk3 (by omega) (by omega)
  have hok3 : ({ u with spots := u.spots.set n (some (b', p')) } : TableM).ok := by
    refine ⟨a2.pages, by simpa using a2.spots, a2.worth, a2.few, a2.row, fun b p hm => ?_⟩
    rcases List.mem_or_eq_of_mem_set hm with hm | hm
    · exact a2.spot b p hm
    · cases hm; exact ⟨hbr, hpu⟩
  refine pLd1 h33 lay_224 (tabtail hok3 _ _).1 ?_
  refine Table_wcell hk3.wf hr3 hr hpl fun w4 hk4 hr4 => ?_
  have h34 := hk4.blk h33 (by rw [a1]; omega)
  refine pLd1 h34 lay_24 (tabtail hok3 _ _).2 ?_
  have h5' : Ints w4 uwv u.worth := (a5.ch hk3.ch fun x hx => by rw [a6 x hx]; omega).ch hk4.ch fun x hx => by rw [a6 x hx]; omega
  refine h5'.get hbu ?_
  simp
  refine h5'.put hbu fun w5 hc5 h55 => ?_
  have hk5 : Keep (fun y => y = c + 2) w4 γ w5 γ := hc5.keep hk4.wf fun x _ hx => a6 x hx
  have hk : Keep (tabC c) w1 γ w5 γ := ((hk2.trans hk3 fun y hy => by unfold tabC; omega).trans hk4 fun y hy => by unfold tabC; omega).trans hk5 fun y hy => by unfold tabC; omega
  have := k w5 hk (by
    rw [e]
    refine ⟨a1, ?_, upv, uwv, hk5.blk h34 (by rw [a1]; omega), ?_, ?_, a6⟩
    · refine ⟨a2.pages, by simpa using a2.spots, by simpa using a2.worth, by simpa using a2.few, fun q hq => ?_, fun b p hm => ?_⟩
      · rcases List.mem_or_eq_of_mem_set hq with hq | rfl
        · exact a2.row q hq
        · rw [List.length_set, hrow]; exact a2.row r (List.mem_of_getElem? hr)
      · simp only [List.length_set]
        exact hok3.spot b p hm
    · simp only [hrow]; exact hr4.keep hk5 (by omega) (by omega)
    · simpa [List.getElem?_eq_getElem hbu] using h55)
  rw [e] at this
  exact this
end Go.Al
