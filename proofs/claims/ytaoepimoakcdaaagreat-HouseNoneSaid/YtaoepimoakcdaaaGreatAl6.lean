/- HouseNone: a nil house is down and has nothing; this text: part 6 of the proof, no condition. -/
import Derived.Test.YtaoepimoakcdaaaGreatAl5
import Derived.Laws.BitsLemmas
import Derived.Laws.Bits64
import Derived.Tactics2
import Derived.Laws.Pointers
import Derived.RegionTactic
import Derived.RegionCalls
namespace Go.Al
open Go Go.Proofs
theorem sli_ints2 : sliP P 224 = some (24, 1, 24) := by kernel_rfl
def TableM.growBy (t : TableM) (k : Nat) : TableM := { t with rows := t.rows ++ List.replicate k (List.replicate t.pages (-1)), worth := t.worth ++ List.replicate k 0 }
def TableM.grow (t : TableM) (n : Int) : TableM := t.growBy (min (max n 0) (64 - t.worth.length)).toNat
theorem TableM.ok.growBy {t : TableM} (ok : t.ok) {k : Nat} (hk : t.rows.length + k ≤ 64) : (t.growBy k).ok := by
  refine ⟨ok.pages, ok.spots, by simp [TableM.growBy, ok.worth], by simp [TableM.growBy]; omega, fun r hr => ?_, fun b p hm => ?_⟩
  · rcases List.mem_append.1 hr with hr | hr
    · exact ok.row r hr
    · rw [List.eq_of_mem_replicate hr]; simp [TableM.growBy]
  · have := ok.spot b p hm
    simp [TableM.growBy]; omega
/-- A row is added. -/
theorem RowsR.add {w' : World} {γ' : Col} {c : Nat} {v' rv : Value} {rows : List (List Int)} {row : List Int} {xs : List (List Int × Value)} (h1 : xs.map (·.1) = rows) (hs : Sl w' 1 cRow v' (xs ++ [(row, rv)])) (hv : ∀ b, live v' = some b → γ' b = c + 1)
    (hrow : Ints w' rv row) (hrv : ∀ b, live rv = some b → γ' b = c + 100 + rows.length) (hold : ∀ (i : Nat) (x : List Int × Value), xs[i]? = some x → Ints w' x.2 x.1 ∧ ∀ b, live x.2 = some b → γ' b = c + 100 + i) : RowsR w' γ' c v' (rows ++ [row]) := by
  refine ⟨xs ++ [(row, rv)], by rw [List.map_append, h1]; rfl, hs, hv, fun i x hx => ?_⟩
  have hl : xs.length = rows.length := by rw [← h1, List.length_map]
  by_cases hi : i < xs.length
  · rw [List.getElem?_append_left hi] at hx
    exact hold i x hx
  · rw [List.getElem?_append_right (by omega)] at hx
    have hi0 : i - xs.length = 0 := by
      have := (List.getElem?_eq_some_iff.1 hx).1
      simp at this; omega
    rw [hi0] at hx
    simp at hx
    subst hx
    have : i = rows.length := by omega
    subst this
    exact ⟨hrow, hrv⟩
theorem Table_Grow {w : World} {γ : Col} {c bt : Nat} {t : TableM} {n : Int} {K : Value → World → Prop} (hw : Wf w γ) (hc : 0 < c) (h : TableR w γ c bt t)
    (k : ∀ w' γ', Keep (tabC c) w γ w' γ' → TableR w' γ' c bt (t.grow n) → K (.tuple #[]) w') : pCall P 140 [ptr bt 0, i64 n] K w := by
  refine c140 ?_
  unfold G140
  obtain ⟨h1, h2, pv, wv, h3, h4, h5, h6⟩ := id h
  have hfew := h2.few
  have hwl := h2.worth
  simp [binV_ptr_eql]
  refine pLd1 h3 lay_24 (tabtail h2 _ _).2 ?_
  rw [h5.len (by simp), pVal_some]
  simp
  rw [wrap_in (by omega) (by omega)]
  generalize hN : (min (max n 0) (64 - (t.worth.length : Int))).toNat = N
  have e1 : (if 64 - (t.worth.length : Int) < if 0 < n then n else 0 then 64 - (t.worth.length : Int) else if 0 < n then n else 0) = (N : Int) := by
    rw [← hN]; split <;> split at * <;> omega
  have e2 : (if 64 - (t.worth.length : Int) < if n < 0 then 0 else n then 64 - (t.worth.length : Int) else if n < 0 then 0 else n) = (N : Int) := by
    rw [← hN]; split <;> split at * <;> omega
  first | rw [e1] | rw [e2] | skip
  have hNle : t.rows.length + N ≤ 64 := by omega
  have hgrow : t.grow n = t.growBy N := by unfold TableM.grow; rw [hN]
  refine loop1_up N (fun i w' => ∃ γ', Keep (tabC c) w γ w' γ' ∧ TableR w' γ' c bt (t.growBy i)) ⟨γ, Keep.refl hw, by simpa [TableM.growBy] using h⟩ ?_
  rintro i wA ag hag hi ⟨γA, hkA, hTA⟩
  simp
  by_cases hlt : i < N
  rotate_left
  · simp [hlt]
    obtain rfl : i = N := by omega
    exact k wA γA hkA (by rw [hgrow]; exact hTA)
  simp [hlt]
  obtain ⟨a1, a2, apv, awv, a3, ⟨xs, b1, b2, b3, b4⟩, a5, a6⟩ := hTA
  generalize hu : t.growBy i = u at *
  have hup : u.pages = t.pages := by rw [← hu]; rfl
  have hul : u.rows.length = t.rows.length + i := by rw [← hu]; simp [TableM.growBy]
  have hp16 := a2.pages
  refine pLd1 a3 lay_3 rfl ?_
  refine pMake (f := cI) (x := 0) sli_int zero_3 cI_len rfl (by omega) (by omega) (by omega) fun rv wB bb hrv hfB hbl hbb => ?_
  rw [hrv.len (by simp), pVal_some, List.length_replicate]
  have hfreshB : ∀ x, live rv = some x → wA.heap.size ≤ x := fun x hx => by
    rcases hbl with hb | hb
    · rw [hb] at hx; cases hx
    · rw [hb] at hx; cases hx; exact hbb
  refine loop1_up u.pages (fun j w' => Ch (fun b => live rv = some b) wB w' ∧ Ints w' rv (List.replicate j (-1) ++ List.replicate (u.pages - j) 0)) ⟨Ch.refl _ _, by simpa using hrv⟩ ?_
  rintro j wC ag2 hag2 hj ⟨hcC, hrC⟩
  simp
  by_cases hjl : j < u.pages
  · simp [hjl]
    refine hrC.put (x := -1) (by simp; omega) fun wD hcD hrD => ?_
    rw [wrap_succ (by omega)]
    exact hag2 (j + 1) wD (by omega) (by omega) ⟨hcC.trans hcD fun _ _ h => h, by rw [← set_rep hjl]; exact hrD⟩
  simp [hjl]
  obtain rfl : j = u.pages := by omega
  have hrC' : Ints wC rv (List.replicate u.pages (-1)) := by simpa using hrC
  have hfAC : Fr wA wC := ⟨Nat.le_trans hfB.size hcC.size, fun b hb hn => (hcC.same b (Nat.lt_of_lt_of_le hb hfB.size) fun he => by have := hfreshB b he; omega).trans (hfB.same b hb fun h => h), hcC.os.trans hfB.os, hcC.output.trans hfB.output⟩
  have c3 := hfAC.blk a3 fun h => h
  refine pLd1 c3 lay_224 (tabtail a2 _ _).1 ?_
  refine pRowN [((List.replicate u.pages (-1) : List Int), rv)] sli_ints2 cRow_len rfl (by omega) (by simpa [cRow] using rowV_one (l := [rv]) (n := 1) zero_24 rfl (by omega) (by omega) hrC'.cell1 rfl) fun lv wD hlvs hfD hfrD => ?_
  have b2D : Sl wD 1 cRow apv xs := (b2.fr hfAC).fr hfD
  have hxl : xs.length = u.rows.length := by rw [← b1, List.length_map]
  have szBA := hfB.size
  have szCB := hcC.size
  have szDC := hfD.size
  refine pAppend' sli_ints2 b2D hlvs (fun y hy => by
    simp at hy
    subst hy
    simp [cRow, hrC'.one]) (by simp; omega) (by omega) fun pv' wE hpvE hcE hlvE => ?_
  -- colours: the row's, then the new array's
  have hkAD : Keep (tabC c) wA γA wD (γA.fill wA.heap.size wD.heap.size (c + 100 + u.rows.length)) := ((hfAC.trans hfD).keep hkA.wf).fill (Nat.le_refl _) (Nat.le_refl _)
  generalize hγD : γA.fill wA.heap.size wD.heap.size (c + 100 + u.rows.length) = γD at hkAD
  have colD : ∀ x, x < wA.heap.size → γD x = γA x := fun x hx => hkAD.col x hx
  have hrvD : ∀ x, live rv = some x → γD x = c + 100 + u.rows.length := fun x hx => by
    rw [← hγD]; exact Col.fill_in (hfreshB x hx) (Nat.lt_of_lt_of_le (hrC'.live_lt hx) szDC)
  have hkDE : Keep (fun y => y = c + 1) wD γD wE (γD.fill wD.heap.size wE.heap.size (c + 1)) := (hcE.keep hkAD.wf fun y _ hy => by rw [colD y (b2.live_lt hy)]; exact b3 y hy).fill (Nat.le_refl _) (Nat.le_refl _)
  generalize hγE : γD.fill wD.heap.size wE.heap.size (c + 1) = γE at hkDE
  have szED := hcE.size
  have a3D := hfD.blk c3 fun h => h
  have a3E := hkDE.blk a3D (by rw [colD bt a3.lt, a1]; omega)
  have colE : ∀ x, x < wD.heap.size → γE x = γD x := fun x hx => hkDE.col x hx
  have a1E : γE bt = c := by rw [colE bt a3D.lt, colD bt a3.lt]; exact a1
  have hpvcol : ∀ x, live pv' = some x → γE x = c + 1 := fun x hx => by
    rcases hlvE with hl | ⟨z, hz, hle⟩
    · rw [hl] at hx; rw [colE x (b2D.live_lt hx), colD x (b2.live_lt hx)]; exact b3 x hx
    · rw [hz] at hx; cases hx
      rw [← hγE]; exact Col.fill_in hle (hpvE.live_lt hz)
  refine pSt1 a3E lay_224 hpvE.cell1 hpvE.one (by rw [tablen a2]; omega) fun wF hcF h3F => ?_
  have hkEF : Keep (fun y => y = c) wE γE wF γE := hcF.keep hkDE.wf fun y _ hy => by rw [hy]; exact a1E
  have hsetF : ([i64 u.pages] ++ (u.spots.flatMap cS ++ [apv, awv])).set 193 pv' = [i64 u.pages] ++ (u.spots.flatMap cS ++ [pv', awv]) := by
    have hl : ([i64 u.pages] ++ u.spots.flatMap cS).length = 193 := by rw [List.length_append, length_flatMap cS_len, a2.spots]; rfl
    rw [← List.append_assoc, List.set_append_right _ _ (by omega), hl, Nat.sub_self, ← List.append_assoc]; rfl
  rw [hsetF] at h3F
  have hrvE : Ints wE rv (List.replicate u.pages (-1)) := (hrC'.fr hfD).ch hkDE.ch fun x hx => by rw [hrvD x hx]; omega
  have hrows0 : ∀ (i : Nat) (x : List Int × Value), xs[i]? = some x → Ints wE x.2 x.1 ∧ ∀ b, live x.2 = some b → γE b = c + 100 + i := fun i x hx => by
    obtain ⟨q1, q2⟩ := b4 i x hx
    have q1D : Ints wD x.2 x.1 := (q1.fr hfAC).fr hfD
    exact ⟨q1D.ch hkDE.ch fun b hb => by rw [colD b (q1.live_lt hb), q2 b hb]; omega, fun b hb => by rw [colE b (q1D.live_lt hb), colD b (q1.live_lt hb)]; exact q2 b hb⟩
  have hrowsE : RowsR wE γE c pv' (u.rows ++ [List.replicate u.pages (-1)]) := RowsR.add b1 hpvE hpvcol hrvE (fun x hx => by rw [colE x (Nat.lt_of_lt_of_le (hrC'.live_lt hx) szDC)]; exact hrvD x hx) hrows0
  have hul' : (u.rows ++ [List.replicate u.pages (-1)]).length ≤ 64 := by simp; omega
  have hrowsF := hrowsE.keep hkEF (by omega) (fun i _ => by omega)
  have a5E : Ints wE awv u.worth := ((a5.fr hfAC).fr hfD).ch hkDE.ch fun x hx => by rw [colD x (a5.live_lt hx), a6 x hx]; omega
  have a5F : Ints wF awv u.worth := a5E.ch hkEF.ch fun x hx => by rw [colE x (((a5.fr hfAC).fr hfD).live_lt hx), colD x (a5.live_lt hx), a6 x hx]; omega
  have a6E : ∀ x, live awv = some x → γE x = c + 2 := fun x hx => by rw [colE x (((a5.fr hfAC).fr hfD).live_lt hx), colD x (a5.live_lt hx)]; exact a6 x hx
  have htail : ([i64 u.pages] ++ (u.spots.flatMap cS ++ [pv', awv]))[194]? = some awv := (tabtail a2 pv' awv).2
  refine pLd1 h3F lay_24 htail ?_
  refine pRowN [(0 : Int)] sli_int cI_len rfl (by omega) (by simpa [cI] using rowV_one (l := [i64 0]) (n := 1) zero_3 rfl (by omega) (by omega) rfl rfl) fun lw wG hlw hfG hfrG => ?_
  refine pAppend sli_int (a5F.fr hfG) hlw cI_one (by have := a2.worth; simp; omega) (by omega) fun wv' wH hwvH hcH hlvH => ?_
  have szFE := hcF.size
  have szGF := hfG.size
  have szHG := hcH.size
  have hkFG : Keep (fun _ => False) wF γE wG γE := hfG.keep hkEF.wf
  have hkGH : Keep (fun y => y = c + 2) wG γE wH (γE.fill wG.heap.size wH.heap.size (c + 2)) := (hcH.keep hkFG.wf fun y _ hy => a6E y hy).fill (Nat.le_refl _) (Nat.le_refl _)
  generalize hγH : γE.fill wG.heap.size wH.heap.size (c + 2) = γH at hkGH
  have colH : ∀ x, x < wG.heap.size → γH x = γE x := fun x hx => hkGH.col x hx
  have h3H := hkGH.blk (hfG.blk h3F fun h => h) (by rw [a1E]; omega)
  have a1H : γH bt = c := by rw [colH bt (Nat.lt_of_lt_of_le h3F.lt szGF)]; exact a1E
  refine pSt1 h3H lay_24 hwvH.cell1 hwvH.one (by rw [tablen a2]; omega) fun wI hcI h3I => ?_
  have hkHI : Keep (fun y => y = c) wH γH wI γH := hcI.keep hkGH.wf fun y _ hy => by rw [hy]; exact a1H
  have hsetI : ([i64 u.pages] ++ (u.spots.flatMap cS ++ [pv', awv])).set 194 wv' = [i64 u.pages] ++ (u.spots.flatMap cS ++ [pv', wv']) := by
    have hl : ([i64 u.pages] ++ u.spots.flatMap cS).length = 193 := by rw [List.length_append, length_flatMap cS_len, a2.spots]; rfl
    rw [← List.append_assoc, List.set_append_right _ _ (by omega), hl, ← List.append_assoc, show 194 - 193 = 1 by omega]; rfl
  rw [hsetI] at h3I
  have hwvcol : ∀ x, live wv' = some x → γH x = c + 2 := fun x hx => by
    rcases hlvH with hl | ⟨z, hz, hle⟩
    · rw [hl] at hx; rw [colH x ((a5F.fr hfG).live_lt hx)]; exact a6E x hx
    · rw [hz] at hx; cases hx
      rw [← hγH]; exact Col.fill_in hle (hwvH.live_lt hz)
  rw [wrap_succ (by omega)]
  have hkAI : Keep (tabC c) wA γA wI γH := ((((hkAD.trans hkDE fun y hy => by unfold tabC; omega).trans hkEF fun y hy => by unfold tabC; omega).trans hkFG fun y hy => hy.elim).trans hkGH fun y hy => by unfold tabC; omega).trans hkHI fun y hy => by unfold tabC; omega
  have hstep : t.growBy (i + 1) = { u with rows := u.rows ++ [List.replicate u.pages (-1)], worth := u.worth ++ [0] } := by
    rw [← hu]; simp [TableM.growBy, List.replicate_succ', List.append_assoc]
  have hok : (t.growBy (i + 1)).ok := TableM.ok.growBy h2 (by omega)
  refine hag (i + 1) wI (by omega) (by omega) ⟨γH, hkA.trans hkAI fun y hy => hy, ?_⟩
  rw [hstep] at hok ⊢
  refine ⟨a1H, hok, pv', wv', h3I, ?_, ?_, fun x hx => hwvcol x hx⟩
  · exact ((hrowsF.keep hkFG (fun h => h) fun i _ h => h).keep hkGH (by omega) (fun i _ => by omega)).keep hkHI (by omega) (fun i _ => by omega)
  · exact hwvH.ch hkHI.ch fun x hx => by rw [hwvcol x hx]; omega
theorem TableR.recol {w : World} {γ γ' : Col} {c b : Nat} {t : TableM} (h : TableR w γ c b t) (hc : 0 < c) (hg : ∀ x, γ x ≠ 0 → γ' x = γ x) : TableR w γ' c b t := by
  obtain ⟨h1, h2, pv, wv, h3, ⟨xs, a1, a2, a3, a4⟩, h5, h6⟩ := h
  refine ⟨(hg b (by omega)).trans h1, h2, pv, wv, h3, ⟨xs, a1, a2, fun x hx => ?_, fun i x hx => ⟨(a4 i x hx).1, fun y hy => ?_⟩⟩, h5, fun x hx => ?_⟩
  · have := a3 x hx; rw [hg x (by omega)]; exact this
  · have := (a4 i x hx).2 y hy; rw [hg y (by omega)]; exact this
  · have := h6 x hx; rw [hg x (by omega)]; exact this
theorem Table_build (M : Nat) : buildV P 226 [(0, i64 M)] = some (.agg ([i64 M] ++ ((List.replicate 64 Option.none).flatMap cS ++ [Value.slice none 0 0, Value.slice none 0 0])).toArray) := by kernel_rfl
theorem Table_New {w : World} {γ : Col} {blocks pages : Int} {K : Value → World → Prop} (c : Nat) (hw : Wf w γ) (hc : 0 < c)
    (k0 : (blocks < 1 ∨ 64 < blocks ∨ pages < 2 ∨ 16 < pages) → K (.pointer none) w)
    (k : ∀ w' γ' b, Keep (fun _ => False) w γ w' γ' → w.heap.size ≤ b → ¬ (blocks < 1 ∨ 64 < blocks ∨ pages < 2 ∨ 16 < pages) → TableR w' γ' c b ((⟨pages.toNat, List.replicate 64 none, [], []⟩ : TableM).grow blocks) → K (ptr b 0) w') :
    pCall P 132 [i64 blocks, i64 pages] K w := by
  refine c132 ?_
  unfold G132
  refine join0 (fun w' => w' = w ∧ ¬ (blocks < 1 ∨ 64 < blocks ∨ pages < 2 ∨ 16 < pages)) ?_ ?_
  rotate_left
  · intro J hJ
    simp
    by_cases g1 : blocks < 1
    · simp [g1]; exact k0 (.inl g1)
    simp [g1]
    by_cases g2 : 64 < blocks
    · simp [g2]; exact k0 (.inr (.inl g2))
    simp [g2]
    by_cases g3 : pages < 2
    · simp [g3]; exact k0 (.inr (.inr (.inl g3)))
    simp [g3]
    by_cases g4 : 16 < pages
    · simp [g4]; exact k0 (.inr (.inr (.inr g4)))
    simp [g4]; exact hJ _ ⟨rfl, by omega⟩
  rintro w0 ⟨rfl, hn⟩
  obtain ⟨M, rfl⟩ : ∃ M : Nat, pages = M := ⟨pages.toNat, by omega⟩
  rw [Table_build M, pVal_some]
  refine pNew_of ([i64 M] ++ ((List.replicate 64 Option.none).flatMap cS ++ [Value.slice none 0 0, Value.slice none 0 0])) (by rfl) fun b w1 hb hbl hf h1 => ?_
  have hk1 : Keep (fun _ => False) w0 (fun _ => 0) w1 (Col.paint (fun _ => 0) b c) := (hf.keep (Wf.zero _)).paint (by omega) hbl
  have hT : TableR w1 (Col.paint (fun _ => 0) b c) c b ⟨M, List.replicate 64 none, [], []⟩ := by
    refine ⟨Col.paint_same, ⟨by show M ≤ 16; omega, by simp, rfl, by simp, fun r hr => (by cases hr), fun b p hm => ?_⟩, _, _, h1, ⟨[], rfl, Sl.nil w1 cRow_len, fun b h => (by cases h), fun i x hx => (by simp at hx)⟩, Sl.nil w1 cI_len, fun x h => (by cases h)⟩
    have := List.eq_of_mem_replicate hm
    cases this
  refine Table_Grow hk1.wf hc hT fun w2 γ2 hk2 hT2 => ?_
  obtain ⟨hall, hov⟩ := Keep.fresh ((hk1.mono (C' := tabC c) fun _ h => h.elim).trans hk2 fun _ h => h) hw (by unfold tabC; omega)
  exact k w2 _ b hall (by omega) hn (hT2.recol hc hov)
end Go.Al

namespace Go.Al
open Go Go.Proofs
/-- The best of the first i. -/
def greedyTo (ws : List Int) : Nat → Int
  | 0 => -1
  | i + 1 =>
    let best := greedyTo ws i
    let w := (ws[i]?).getD (-1)
    if 0 ≤ w ∧ (best = -1 ∨ w < (ws[best.toNat]?).getD 0) then (i : Int) else best
def greedy (ws : List Int) : Int := greedyTo ws ws.length
theorem greedyTo_lt (ws : List Int) : ∀ i, greedyTo ws i = -1 ∨ (0 ≤ greedyTo ws i ∧ greedyTo ws i < i)
  | 0 => .inl rfl
  | i + 1 => by
    have ih := greedyTo_lt ws i
    unfold greedyTo
    simp only
    split
    · right; omega
    · rcases ih with h | h
      · exact .inl h
      · right; omega
theorem Greedy {w : World} {v : Value} {ws : List Int} {K : Value → World → Prop} (h : Ints w v ws) (h63 : ws.length ≤ 1000000000) (k : K (i64 (greedy ws)) w) : pCall P 259 [v] K w := by
  refine c259 ?_
  unfold G259
  rw [h.len (by simp), pVal_some]
  refine loop2_upR 0 ws.length (fun i a w' => w' = w ∧ a = i64 (greedyTo ws i)) (Nat.zero_le _) ⟨rfl, rfl⟩ ?_
  rintro i _ w0 ag hag _ hi ⟨rfl, rfl⟩
  simp
  by_cases hlt : i < ws.length
  rotate_left
  · simp [hlt]
    obtain rfl : i = ws.length := by omega
    exact k
  simp [hlt]
  refine h.get hlt ?_
  simp
  have hget : (ws[i]?).getD (-1) = ws[i] := by rw [List.getElem?_eq_getElem hlt]; rfl
  have step : ∀ b : Int, greedyTo ws (i + 1) = b → ag (i64 b) (.int .i64 (IntKind.i64.wrap ((i : Int) + 1))) w0 := fun b hb => by
    rw [wrap_succ (by omega)]
    exact hag (i + 1) _ _ (by omega) (by omega) ⟨rfl, by rw [hb]⟩
  have hgs : greedyTo ws (i + 1) = if 0 ≤ ws[i] ∧ (greedyTo ws i = -1 ∨ ws[i] < (ws[(greedyTo ws i).toNat]?).getD 0) then (i : Int) else greedyTo ws i := by
    show (if 0 ≤ (ws[i]?).getD (-1) ∧ (greedyTo ws i = -1 ∨ (ws[i]?).getD (-1) < (ws[(greedyTo ws i).toNat]?).getD 0) then (i : Int) else greedyTo ws i) = _
    rw [hget]
  by_cases g1 : 0 ≤ ws[i]
  rotate_left
  · simp [g1]
    exact step _ (by rw [hgs, if_neg (by omega)])
  simp [g1]
  by_cases g2 : greedyTo ws i = -1
  · simp [g2]
    exact step _ (by rw [hgs, if_pos ⟨g1, .inl g2⟩])
  simp [g2]
  have hb := greedyTo_lt ws i
  obtain ⟨j, hj⟩ : ∃ j : Nat, greedyTo ws i = j := ⟨(greedyTo ws i).toNat, by omega⟩
  rw [hj]
  refine h.get (i := j) (by omega) ?_
  simp
  have hjl : j < ws.length := by omega
  rw [hj] at hgs
  simp only [Int.toNat_natCast, List.getElem?_eq_getElem hjl, Option.getD_some] at hgs
  by_cases g3 : ws[i] < ws[j]
  · simp [g3]
    exact step _ (by rw [hgs, if_pos ⟨g1, .inr g3⟩])
  · simp [g3]
    exact step _ (by rw [hgs, if_neg (by omega)])
end Go.Al

namespace Go.Al
open Go Go.Proofs
@[simp] theorem binV_shr (t : TypeId) (k : IntKind) (a b : Int) (h : 0 ≤ b) : binV P .shr t (.int k a) (.int .u64 b) = some (.int k (a.fdiv (2 ^ min b.toNat k.bits))) := by
  simp only [binV, shiftV]
  rw [if_neg (by omega)]
def sizedM (n : Int) : Bool := decide (n = 1 ∨ n = 2 ∨ n = 4)
def fitsM (v n : Int) : Bool := sizedM n && decide (0 ≤ v ∧ v < 256 ^ n.toNat)
theorem Word_sized {w : World} {n : Int} {K : Value → World → Prop} (k : K (.bool (sizedM n)) w) : pCall P 223 [i64 n] K w := by
  refine c223 ?_
  unfold G223
  unfold sizedM at k
  simp
  by_cases h1 : n = 1
  · simp [h1] at k ⊢; exact k
  by_cases h2 : n = 2
  · simp [h2] at k ⊢; exact k
  by_cases h4 : n = 4
  · simp [h4] at k ⊢; exact k
  simp [h1, h2, h4] at k ⊢; exact k
theorem Word_Fits {w : World} {v n : Int} {K : Value → World → Prop} (k : K (.bool (fitsM v n)) w) : pCall P 230 [i64 v, i64 n] K w := by
  refine c230 ?_
  unfold G230
  refine Word_sized ?_
  unfold fitsM at k
  by_cases hs : sizedM n = true
  rotate_left
  · simp [hs] at k ⊢; exact k
  have hn : n = 1 ∨ n = 2 ∨ n = 4 := by simpa [sizedM] using hs
  have hk : K (.bool (decide (0 ≤ v ∧ v < 256 ^ n.toNat))) w := by simpa [hs] using k
  rw [hs, pGuard_true, if_pos rfl]
  have fin : ∀ m : Nat, v.fdiv (2 ^ (8 * m)) = 0 ↔ 0 ≤ v ∧ v < 256 ^ m := fun m => by
    have hpos : (0 : Int) < 2 ^ (8 * m) := Int.pow_pos (by omega)
    have e : (2 : Int) ^ (8 * m) = 256 ^ m := by rw [Int.pow_mul]; rfl
    rw [e] at hpos ⊢
    rw [Int.fdiv_eq_ediv_of_nonneg _ (by omega)]
    constructor
    · intro h
      have h1 := Int.emod_add_mul_ediv v (256 ^ m)
      have h2 := Int.emod_nonneg v (show (256 ^ m : Int) ≠ 0 by omega)
      have h3 := Int.emod_lt_of_pos v hpos
      rw [h, Int.mul_zero, Int.add_zero] at h1
      omega
    · rintro ⟨h1, h2⟩
      exact Int.ediv_eq_zero_of_lt h1 h2
  have sh : ∀ m : Nat, m ≤ 7 → binV P .shr 3 (i64 v) (.int .u64 ((8 * m : Nat) : Int)) = some (i64 (v.fdiv (2 ^ (8 * m)))) := fun m hm => by
    rw [binV_shr _ _ _ _ (by omega)]
    have : min (((8 * m : Nat) : Int)).toNat IntKind.i64.bits = 8 * m := by
      have hb : IntKind.i64.bits = 64 := rfl
      rw [hb]; omega
    rw [this]
  have go : ∀ m : Nat, m ≤ 7 → n = m → pVal (binV P .mul 3 (.int .i64 8) (i64 n)) (fun v10 => pVal (convV P 3 286 v10) fun v11 => pVal (binV P .shr 3 (i64 v) v11) fun v12 => pVal (binV P .eql 3 v12 (.int .i64 0)) fun v13 => K v13) w := fun m hm he => by
    subst he
    simp [convV]
    have e : IntKind.u64.wrap (IntKind.i64.wrap (8 * (m : Int))) = ((8 * m : Nat) : Int) := by
      rw [wrap_in (by omega) (by omega), IntKind.wrap_u64]; omega
    rw [e, sh m hm]
    simp
    simp only [Int.toNat_natCast] at hk
    have hd : decide (v.fdiv (2 ^ (8 * m)) = 0) = decide (0 ≤ v ∧ v < 256 ^ m) := by
      by_cases h : 0 ≤ v ∧ v < 256 ^ m
      · rw [decide_eq_true h, decide_eq_true ((fin m).2 h)]
      · rw [decide_eq_false h, decide_eq_false (fun h' => h ((fin m).1 h'))]
    rw [hd]
    exact hk
  rcases hn with h | h | h
  · exact go 1 (by omega) h
  · exact go 2 (by omega) h
  · exact go 4 (by omega) h
/-- A number's bytes: the least first. -/
def leM (x : Nat) : Nat → List UInt8
  | 0 => []
  | n + 1 => UInt8.ofNat (x % 256) :: leM (x / 256) n
/-- What bytes tell. -/
def unle : List UInt8 → Nat
  | [] => 0
  | b :: bs => b.toNat + 256 * unle bs
theorem leM_length : ∀ (n x : Nat), (leM x n).length = n
  | 0, _ => rfl
  | n + 1, x => by simp [leM, leM_length n]
theorem leM_snoc : ∀ (n x : Nat), leM x (n + 1) = leM x n ++ [UInt8.ofNat (x / 256 ^ n % 256)]
  | 0, x => by simp [leM]
  | n + 1, x => by
    have ih := leM_snoc n (x / 256)
    show UInt8.ofNat (x % 256) :: leM (x / 256) (n + 1) = _
    rw [ih]
    simp only [leM, List.cons_append]
    rw [Nat.div_div_eq_div_mul, ← Nat.pow_succ']
def putM (bs : List UInt8) (x n : Int) : List UInt8 := if fitsM x n then bs ++ leM x.toNat n.toNat else bs
theorem Clip_byte {w : World} {v : Value} {xs : List UInt8} {K : Value → World → Prop} (h : Bytes w v xs)
    (k : ∀ v', Bytes w v' xs → (live v' = live v ∨ live v' = none) → K v' w) : pCall P 229 [v] K w := by
  refine c229 ?_
  unfold G229
  rw [h.len (by simp)]
  simp
  obtain ⟨v', hv', hs', hl', _, _⟩ := sl_slice3 (t := 227) (lo := none) (hi := some (i64 xs.length)) (mx := some (i64 xs.length)) (k := xs.length) h sli_byte (Nat.le_refl _) rfl (boundV_nat _ _ _ _ (Nat.le_refl _)) (fun c hc => boundV_nat _ _ _ _ hc) rfl rfl
  rw [hv', pVal_some]
  exact k v' (by simpa using hs') hl'
theorem Word_Put {w : World} {v : Value} {bs : List UInt8} {x n : Int} {K : Value → World → Prop} (h : Bytes w v bs) (h63 : bs.length ≤ 100000000)
    (k : ∀ v' w', Bytes w' v' (putM bs x n) → Fr w w' → Fresh w v' → K v' w') : pCall P 198 [v, i64 x, i64 n] K w := by
  refine c198 ?_
  unfold G198
  refine Clone_byte h (by omega) fun v1 w1 hs1 hf1 hfr1 => ?_
  refine Clip_byte hs1 fun v2 hs2 hl2 => ?_
  have hfr2 : Fresh w v2 := fun c hc => by
    rcases hl2 with h | h
    · exact hfr1 c (by rw [← h]; exact hc)
    · rw [h] at hc; cases hc
  refine Word_Fits ?_
  unfold putM at k
  by_cases hfit : fitsM x n = true
  rotate_left
  · simp [hfit] at k ⊢
    exact k v2 w1 hs2 hf1 hfr2
  simp [hfit]
  simp only [hfit, if_true] at k
  have hn : (n = 1 ∨ n = 2 ∨ n = 4) ∧ 0 ≤ x ∧ x < 256 ^ n.toNat := by
    unfold fitsM sizedM at hfit; simpa using hfit
  obtain ⟨N, rfl⟩ : ∃ N : Nat, n = N := ⟨n.toNat, by omega⟩
  obtain ⟨X, rfl⟩ : ∃ X : Nat, x = X := ⟨x.toNat, by omega⟩
  have hN : N ≤ 4 := by omega
  simp only [Int.toNat_natCast] at k hn
  have hX : X < 256 ^ 4 := by
    have h1 : (X : Int) < 256 ^ N := hn.2.2
    have h2 : (256 : Int) ^ N = ((256 ^ N : Nat) : Int) := by simp
    have h3 : X < 256 ^ N := by omega
    exact Nat.lt_of_lt_of_le h3 (Nat.pow_le_pow_right (by omega) hN)
  refine loop3_up 0 N (fun i a b w' => a = i64 ((X / 256 ^ i : Nat) : Int) ∧ Fr w w' ∧ Fresh w b ∧ Bytes w' b (bs ++ leM X i)) (Nat.zero_le _) ⟨by simp, hf1, hfr2, by simpa [leM] using hs2⟩ ?_
  rintro i _ b w2 ag hag _ hi ⟨rfl, hf2, hfb, hsb⟩
  simp
  by_cases hlt : i < N
  rotate_left
  · simp [hlt]
    obtain rfl : i = N := by omega
    exact k b w2 hsb hf2 hfb
  simp [hlt, convV]
  have hY : X / 256 ^ i ≤ X := Nat.div_le_self _ _
  generalize hYe : X / 256 ^ i = Y at *
  have hbyte : Value.int .u8 (IntKind.u8.wrap (Y : Int)) = .int .u8 (((UInt8.ofNat (Y % 256)).toNat : Nat) : Int) := by
    rw [IntKind.wrap_u8, UInt8.toNat_ofNat']; congr 1; omega
  have hYi : ((X : Int) / 256 ^ i) = (Y : Int) := by rw [← hYe]; simp
  first | rw [hYi] | skip
  rw [hbyte]
  refine pRowN [UInt8.ofNat (Y % 256)] sli_byte cB_len rfl (by omega) (by simpa [cB] using rowV_one (v := .int .u8 (((UInt8.ofNat (Y % 256)).toNat : Nat) : Int)) (l := [.int .u8 (((UInt8.ofNat (Y % 256)).toNat : Nat) : Int)]) (n := 1) zero_5 rfl (by omega) (by omega) rfl rfl) fun lv w3 hlv hf3 hfr3 => ?_
  have hll := leM_length i X
  refine pAppend sli_byte (hsb.fr hf3) hlv cB_one (by simp [hll]; omega) (by omega) fun b' w4 hb' hc4 hl4 => ?_
  have hf23 := hf2.trans hf3
  have hf4 : Fr w w4 := Fr.fresh hf23 hc4 hfb
  have hdiv : Y / 256 = X / 256 ^ (i + 1) := by rw [← hYe, Nat.div_div_eq_div_mul, ← Nat.pow_succ]
  have hshr : ((Y : Int).fdiv (2 ^ min 8 IntKind.i64.bits)) = ((X / 256 ^ (i + 1) : Nat) : Int) := by
    have hm : min 8 IntKind.i64.bits = 8 := rfl
    rw [hm, Int.fdiv_eq_ediv_of_nonneg _ (by omega), ← hdiv]
    rfl
  rw [hshr, wrap_succ (by omega)]
  refine hag (i + 1) _ _ _ (by omega) (by omega) ⟨by simp, hf4, fun c hc => ?_, ?_⟩
  · rcases hl4 with hl | ⟨z, hz, hle⟩
    · exact hfb c (by rw [← hl]; exact hc)
    · rw [hz] at hc; cases hc; exact Nat.le_trans hf23.size hle
  · rw [leM_snoc, hYe, ← List.append_assoc]
    exact hb'
end Go.Al

namespace Go.Al
open Go Go.Proofs
structure RdM where
  bs : List UInt8
  e : Int
def RdM.fail (r : RdM) (x : Int) : RdM := if r.e = 0 then { r with e := x } else r
def RdM.next (r : RdM) (n : Nat) : List UInt8 × RdM := if r.e ≠ 0 then ([], r) else if r.bs.length < n then ([], r.fail 2) else (r.bs.take n, { r with bs := r.bs.drop n })
def RdM.number (r : RdM) (n : Nat) : Nat × RdM := (unle (r.next n).1, (r.next n).2)
def RdM.flag (r : RdM) : Bool × RdM := (decide ((r.number 1).1 = 1), if 1 < (r.number 1).1 then (r.number 1).2.fail 2 else (r.number 1).2)
def RdM.done (r : RdM) : RdM := if 0 < r.bs.length then r.fail 2 else r
/-- A reader in memory. -/
def RdR (w : World) (b : Nat) (r : RdM) : Prop := ∃ v, Blk w b 290 [v, i64 r.e] ∧ Bytes w v r.bs ∧ (∀ c, live v = some c → c < b) ∧ r.bs.length ≤ 1000000
theorem RdR.ch {B : Nat → Prop} {w w' : World} {b : Nat} {r : RdM} (h : RdR w b r) (hc : Ch B w w') (h1 : ¬ B b) (h2 : ∀ c, c < b → ¬ B c) : RdR w' b r := by
  obtain ⟨v, a1, a2, a3, a4⟩ := h
  exact ⟨v, hc.blk a1 h1, a2.same' hc fun c hc' => h2 c (a3 c hc'), a3, a4⟩
theorem RdR.fr {w w' : World} {b : Nat} {r : RdM} (h : RdR w b r) (hc : Fr w w') : RdR w' b r := h.ch hc (fun h => h) fun _ _ h => h
theorem Reader_fail {w : World} {b : Nat} {r : RdM} {x : Int} {K : Value → World → Prop} (h : RdR w b r) (hx : x ≠ 0) (k : ∀ w', Ch (· = b) w w' → RdR w' b (r.fail x) → K (.bool true) w') : pCall P 224 [ptr b 0, i64 x] K w := by
  refine c224 ?_
  unfold G224
  obtain ⟨v, a1, a2, a3, a4⟩ := id h
  refine pJoin0_in ?_
  simp
  refine pLd1 a1 lay_35 rfl ?_
  simp
  by_cases g : r.e = 0
  · simp [g]
    refine pSt1 a1 lay_35 rfl rfl (by simp) fun w1 hc1 h1 => ?_
    refine pLd1 h1 lay_35 rfl ?_
    simp [hx]
    exact k w1 hc1 (by unfold RdM.fail; rw [if_pos g]; exact ⟨v, h1, a2.ch hc1 fun c hc => Nat.ne_of_lt (a3 c hc), a3, a4⟩)
  · simp [g]
    refine pLd1 a1 lay_35 rfl ?_
    simp [g]
    exact k w (Ch.refl _ _) (by unfold RdM.fail; rw [if_neg g]; exact h)
theorem Reader_next {w : World} {b : Nat} {r : RdM} {n : Nat} {K : Value → World → Prop} (h : RdR w b r)
    (k : ∀ v' w', Ch (· = b) w w' → Bytes w' v' (r.next n).1 → RdR w' b (r.next n).2 → K v' w') : pCall P 225 [ptr b 0, i64 n] K w := by
  refine c225 ?_
  unfold G225
  obtain ⟨v, a1, a2, a3, a4⟩ := id h
  unfold RdM.next at k
  refine join0 (fun w' => w' = w ∧ r.e = 0 ∧ n ≤ r.bs.length) ?_ ?_
  · rintro w0 ⟨rfl, g1, g2⟩
    rw [if_neg (by simpa using g1), if_neg (by omega)] at k
    simp
    refine pLd1 a1 lay_227 rfl ?_
    obtain ⟨v1, hv1, hs1, hl1, _, _⟩ := sl_slice3 (t := 227) (lo := none) (hi := some (i64 n)) (mx := some (i64 n)) (k := n) a2 sli_byte g2 rfl (boundV_nat _ _ _ _ (Nat.le_refl _)) (fun c hc => boundV_nat _ _ _ _ (by omega)) rfl rfl
    rw [hv1, pVal_some]
    refine pLd1 a1 lay_227 rfl ?_
    obtain ⟨v2, hv2, hs2, hl2⟩ := sl_slice (t := 227) (lo := some (i64 n)) (hi := none) (l := n) (k := r.bs.length) a2 sli_byte (Nat.le_refl _) g2 (fun c hc => rfl) (boundV_nat _ _ _ _ g2)
    rw [hv2, pVal_some]
    refine pSt1 a1 lay_227 hs2.cell1 hs2.one (by simp) fun w1 hc1 h1 => ?_
    have n1 : ∀ c, live v1 = some c → c < b := fun c hc => by
      rcases hl1 with hl | hl
      · exact a3 c (by rw [← hl]; exact hc)
      · rw [hl] at hc; cases hc
    have n2 : ∀ c, live v2 = some c → c < b := fun c hc => by
      rcases hl2 with hl | hl
      · exact a3 c (by rw [← hl]; exact hc)
      · rw [hl] at hc; cases hc
    have hs2' : Bytes w0 v2 (r.bs.drop n) := by rw [List.take_of_length_le (Nat.le_refl _)] at hs2; exact hs2
    exact k v1 w1 hc1 (hs1.ch hc1 fun c hc => Nat.ne_of_lt (n1 c hc)) ⟨v2, h1, hs2'.ch hc1 fun c hc => Nat.ne_of_lt (n2 c hc), n2, by simp; omega⟩
  · intro J hJ
    simp
    refine pLd1 a1 lay_35 rfl ?_
    simp
    by_cases g1 : r.e = 0
    rotate_left
    · simp [g1]
      rw [if_pos (by simpa using g1)] at k
      exact k _ w (Ch.refl _ _) (Bytes.nil _) h
    simp [g1]
    refine pLd1 a1 lay_227 rfl ?_
    rw [a2.len (by simp), pVal_some]
    simp
    by_cases g2 : r.bs.length < n
    · simp [g2]
      rw [if_neg (by simpa using g1), if_pos g2] at k
      refine Reader_fail h (by omega) fun w1 hc1 h1 => ?_
      simp
      exact k _ w1 hc1 (Bytes.nil _) h1
    · simp [g2]
      exact hJ _ ⟨rfl, g1, by omega⟩
theorem or_bytes {a c i : Nat} (hi : i ≤ 3) (ha : a < 256 ^ i) (hc : c < 256) : binV P .or 3 (i64 a) (i64 ((c * 256 ^ i : Nat) : Int)) = some (i64 ((a + c * 256 ^ i : Nat) : Int)) := by
  have e : (256 : Nat) ^ i = 2 ^ (8 * i) := by rw [Nat.pow_mul]
  rw [e] at ha ⊢
  have hp : (2 : Nat) ^ (8 * i) ≤ 2 ^ 24 := Nat.pow_le_pow_right (by omega) (by omega)
  have hb : c * 2 ^ (8 * i) ≤ 255 * 2 ^ 24 := Nat.mul_le_mul (by omega) hp
  have hor : a ||| c * 2 ^ (8 * i) = a + c * 2 ^ (8 * i) := by
    have := Nat.two_pow_add_eq_or_of_lt ha c
    rw [Nat.or_comm, Nat.mul_comm c, ← this]; omega
  simp only [binV, intV, if_true]
  congr 2
  have hbits : IntKind.i64.bits = 64 := rfl
  rw [hbits, BitVec.ofInt_natCast, BitVec.ofInt_natCast, BitVec.toNat_or, BitVec.toNat_ofNat, BitVec.toNat_ofNat, Nat.mod_eq_of_lt (by omega), Nat.mod_eq_of_lt (by omega), hor]
  exact wrap_in (by omega) (by omega)
theorem unle_snoc : ∀ (l : List UInt8) (b : UInt8), unle (l ++ [b]) = unle l + b.toNat * 256 ^ l.length
  | [], b => by simp [unle]
  | a :: l, b => by
    simp only [List.cons_append, unle, unle_snoc l b, List.length_cons, Nat.pow_succ]
    rw [Nat.mul_add]
    have : 256 * (b.toNat * 256 ^ l.length) = b.toNat * (256 ^ l.length * 256) := by rw [Nat.mul_comm 256, Nat.mul_assoc]
    omega
theorem unle_lt : ∀ l : List UInt8, unle l < 256 ^ l.length
  | [] => by simp [unle]
  | a :: l => by
    have := unle_lt l
    have h2 := a.toNat_lt
    simp only [unle, List.length_cons, Nat.pow_succ]
    omega
theorem Bytes.get {w : World} {v : Value} {xs : List UInt8} {i : Nat} {K : Value → World → Prop} (h : Bytes w v xs) (hi : i < xs.length) (k : K (.int .u8 xs[i].toNat) w) :
    (pVal (indexV P 227 v (i64 i)) fun a => pLd P 5 a K) w := by
  obtain ⟨b, o, T, l, _, hb, hx, ho, hc, _⟩ := Sl.at h (List.getElem?_eq_getElem hi) (by omega)
  rw [hx 227 .i64 (by simp), pVal_some]
  exact pLd1 hb lay_5 (take_one hc) k
theorem Reader_Number {w : World} {b : Nat} {r : RdM} {n : Nat} {K : Value → World → Prop} (h : RdR w b r) (hn : n = 1 ∨ n = 2 ∨ n = 4)
    (k : ∀ w', Ch (· = b) w w' → RdR w' b (r.number n).2 → K (i64 ((r.number n).1 : Nat)) w') : pCall P 189 [ptr b 0, i64 n] K w := by
  refine c189 ?_
  unfold G189
  refine pJoin0_in ?_
  simp [binV_ptr_eql]
  refine Word_sized ?_
  have hs : sizedM (n : Int) = true := by unfold sizedM; simp; omega
  simp [hs]
  refine Reader_next h fun v' w1 hc1 hs1 h1 => ?_
  unfold RdM.number at k
  have hlen : (r.next n).1.length ≤ 4 := by
    unfold RdM.next
    split
    · simp
    · split
      · simp
      · simp; omega
  generalize hr : r.next n = q at *
  obtain ⟨bs, r'⟩ := q
  simp only at hs1 h1 k hlen
  rw [hs1.len (by simp), pVal_some]
  refine loop2_upR 0 bs.length (fun i a w' => w' = w1 ∧ a = i64 ((unle (bs.take i) : Nat) : Int)) (Nat.zero_le _) ⟨rfl, rfl⟩ ?_
  rintro i _ w2 ag hag _ hi ⟨rfl, rfl⟩
  simp
  by_cases hlt : i < bs.length
  rotate_left
  · simp [hlt]
    obtain rfl : i = bs.length := by omega
    rw [List.take_of_length_le (Nat.le_refl _)]
    exact k _ hc1 h1
  simp [hlt]
  refine hs1.get hlt ?_
  have hb := bs[i].toNat_lt
  have e1 : IntKind.i64.wrap ((bs[i].toNat : Nat) : Int) = ((bs[i].toNat : Nat) : Int) := wrap_in (by omega) (by omega)
  have e2 : IntKind.u64.wrap (IntKind.i64.wrap (8 * (i : Int))) = ((8 * i : Nat) : Int) := by rw [wrap_in (by omega) (by omega), IntKind.wrap_u64]; omega
  simp [convV, e1, e2]
  have hshl : binV P .shl 3 (i64 ((bs[i].toNat : Nat) : Int)) (.int .u64 ((8 * i : Nat) : Int)) = some (i64 ((bs[i].toNat * 256 ^ i : Nat) : Int)) := by
    simp only [binV, shiftV]
    rw [if_neg (by omega)]
    have hm : min (((8 * i : Nat) : Int)).toNat IntKind.i64.bits = 8 * i := by
      have hb : IntKind.i64.bits = 64 := rfl
      rw [hb]; omega
    rw [hm]
    have hp : (2 : Nat) ^ (8 * i) ≤ 2 ^ 24 := Nat.pow_le_pow_right (by omega) (by omega)
    have hb2 : bs[i].toNat * 2 ^ (8 * i) ≤ 255 * 2 ^ 24 := Nat.mul_le_mul (by omega) hp
    have e : (256 : Nat) ^ i = 2 ^ (8 * i) := by rw [Nat.pow_mul]
    have ec : ((bs[i].toNat : Nat) : Int) * 2 ^ (8 * i) = ((bs[i].toNat * 2 ^ (8 * i) : Nat) : Int) := by simp
    rw [e, ec, wrap_in (by omega) (by omega)]
  have e8 : (8 * (i : Int)) = ((8 * i : Nat) : Int) := by omega
  have htl : (bs.take i).length = i := by simp; omega
  rw [e8, hshl, pVal_some, or_bytes (by omega) (by have := unle_lt (bs.take i); rw [htl] at this; exact this) hb, pVal_some, wrap_succ (by omega)]
  refine hag (i + 1) _ _ (by omega) (by omega) ⟨rfl, ?_⟩
  have ht : bs.take (i + 1) = bs.take i ++ [bs[i]] := by rw [List.take_add_one, List.getElem?_eq_getElem hlt]; rfl
  rw [ht, unle_snoc, htl]
theorem Reader_Left {w : World} {b : Nat} {r : RdM} {K : Value → World → Prop} (h : RdR w b r) (k : K (i64 r.bs.length) w) : pCall P 255 [ptr b 0] K w := by
  refine c255 ?_
  unfold G255
  obtain ⟨v, a1, a2, a3, a4⟩ := h
  simp [binV_ptr_eql]
  refine pLd1 a1 lay_227 rfl ?_
  rw [a2.len (by simp), pVal_some]
  exact k
theorem Reader_Flag {w : World} {b : Nat} {r : RdM} {K : Value → World → Prop} (h : RdR w b r) (k : ∀ w', Ch (· = b) w w' → RdR w' b r.flag.2 → K (.bool r.flag.1) w') : pCall P 190 [ptr b 0] K w := by
  refine c190 ?_
  unfold G190
  refine Reader_Number (n := 1) h (by omega) fun w1 hc1 h1 => ?_
  simp
  have e : decide ((((r.number 1).1 : Nat) : Int) = 1) = decide ((r.number 1).1 = 1) := by
    by_cases g : (r.number 1).1 = 1
    · simp [g]
    · have : ¬ (((r.number 1).1 : Nat) : Int) = 1 := by omega
      simp [g, this]
  rw [e]
  unfold RdM.flag at k
  by_cases g : 1 < (r.number 1).1
  · have : (1 : Int) < (((r.number 1).1 : Nat) : Int) := by omega
    rw [if_pos g] at k
    simp [this]
    exact Reader_fail h1 (by omega) fun w2 hc2 h2 => k w2 (hc1.trans hc2 fun _ _ h => h) h2
  · have : ¬ (1 : Int) < (((r.number 1).1 : Nat) : Int) := by omega
    rw [if_neg g] at k
    simp [this]
    exact k w1 hc1 h1
theorem Reader_Done {w : World} {b : Nat} {r : RdM} {K : Value → World → Prop} (h : RdR w b r) (k : ∀ w', Ch (· = b) w w' → RdR w' b r.done → K (i64 r.done.e) w') : pCall P 191 [ptr b 0] K w := by
  refine c191 ?_
  unfold G191
  simp only [binV_ptr_eql kind_263, pVal_some, pIf_bool, Option.isNone_some, Bool.false_eq_true, if_false]
  refine join0 (fun w' => Ch (· = b) w w' ∧ RdR w' b r.done) ?_ ?_
  · rintro w1 ⟨hc1, h1⟩
    obtain ⟨v, a1, a2, a3, a4⟩ := id h1
    simp
    exact pLd1 a1 lay_35 rfl (k w1 hc1 h1)
  · intro J hJ
    obtain ⟨v, a1, a2, a3, a4⟩ := id h
    simp
    refine pLd1 a1 lay_227 rfl ?_
    rw [a2.len (by simp), pVal_some]
    unfold RdM.done at hJ
    by_cases g : 0 < r.bs.length
    · rw [if_pos g] at hJ
      have : r.bs ≠ [] := fun e => by rw [e] at g; simp at g
      simp [g]
      first
      | exact Reader_fail h (by omega) fun w2 hc2 h2 => hJ _ ⟨hc2, h2⟩
      | (simp [this]; exact Reader_fail h (by omega) fun w2 hc2 h2 => hJ _ ⟨hc2, h2⟩)
    · rw [if_neg g] at hJ
      have : r.bs = [] := List.eq_nil_of_length_eq_zero (by omega)
      simp [this]
      first
      | exact hJ _ ⟨Ch.refl _ _, h⟩
      | (simp [g]; exact hJ _ ⟨Ch.refl _ _, h⟩)
theorem Word_Read {w : World} {v : Value} {bs : List UInt8} {K : Value → World → Prop} (h : Bytes w v bs) (h63 : bs.length ≤ 1000000)
    (k : ∀ b w', w.heap.size ≤ b → Fr w w' → RdR w' b ⟨bs, 0⟩ → K (ptr b 0) w') : pCall P 188 [v] K w := by
  refine c188 ?_
  unfold G188
  refine Clone_byte h (by omega) fun v1 w1 hs1 hf1 hfr1 => ?_
  simp [buildV_app, fillL, fillA, splice, hs1.cells]
  refine pNew_of [v1, i64 0] rfl fun b w2 hb hbl hf2 h2 => ?_
  exact k b w2 (by have := hf1.size; omega) (hf1.trans hf2) ⟨v1, h2, hs1.fr hf2, fun c hc => by have := hs1.live_lt hc; omega, h63⟩
end Go.Al

namespace Go.Al
open Go Go.Proofs
theorem xDisable {w : World} {K : Value → World → Prop} (k : K (.tuple #[]) w) : pExt P 287 [] K w := by
  unfold pExt
  exact ⟨_, _, run_call_mark0 Tryz.func287 (by kernel_rfl) (by kernel_rfl) (by kernel_rfl) .disable (by kernel_rfl) w, k⟩
theorem xEnable {w : World} {K : Value → World → Prop} (k : K (.tuple #[]) w) : pExt P 289 [] K w := by
  unfold pExt
  exact ⟨_, _, run_call_mark0 Tryz.func289 (by kernel_rfl) (by kernel_rfl) (by kernel_rfl) .enable (by kernel_rfl) w, k⟩
theorem xAcquire {w : World} {b o : Nat} {K : Value → World → Prop} (k : K (.tuple #[]) w) : pExt P 290 [ptr b o] K w := by
  unfold pExt
  exact ⟨_, _, run_call_marked Tryz.func290 (by kernel_rfl) (by kernel_rfl) (by kernel_rfl) .acquire (by kernel_rfl) ⟨b, o, none⟩ w, k⟩
theorem xReleaseMerge {w : World} {b o : Nat} {K : Value → World → Prop} (k : K (.tuple #[]) w) : pExt P 292 [ptr b o] K w := by
  unfold pExt
  exact ⟨_, _, run_call_marked Tryz.func292 (by kernel_rfl) (by kernel_rfl) (by kernel_rfl) .releaseMerge (by kernel_rfl) ⟨b, o, none⟩ w, k⟩
theorem xCas32 {w : World} {b o : Nat} {T : TypeId} {l : List Value} {x y : Int} {K : Value → World → Prop} (h : Blk w b T l) (hv : l[o]? = some (.int .i32 x))
    (k : ∀ w1, Ch (· = b) w w1 → Blk w1 b T (l.set o (.int .i32 y)) → K (.bool true) w1) : pExt P 288 [ptr b o, .int .i32 x, .int .i32 y] K w := by
  unfold pExt
  exact ⟨_, _, run_call_cas_hit Tryz.func288 (by kernel_rfl) (by kernel_rfl) (by kernel_rfl) .i32 (by kernel_rfl) (by rw [cell_blk h, hv]) (frozen_blk h hv),
    k _ (setCell_ch _ _ _ _) (setCell_blk h _)⟩
theorem xAdd32 {w : World} {b o : Nat} {T : TypeId} {l : List Value} {x y : Int} {K : Value → World → Prop} (h : Blk w b T l) (hv : l[o]? = some (.int .i32 x))
    (k : ∀ w1, Ch (· = b) w w1 → Blk w1 b T (l.set o (.int .i32 (IntKind.i32.wrap (x + y)))) → K (.int .i32 (IntKind.i32.wrap (x + y))) w1) : pExt P 293 [ptr b o, .int .i32 y] K w := by
  unfold pExt
  exact ⟨_, _, run_call_add Tryz.func293 (by kernel_rfl) (by kernel_rfl) (by kernel_rfl) .i32 (by kernel_rfl) (by rw [cell_blk h, hv]) (frozen_blk h hv) (by simp [Op.intArith]),
    k _ (setCell_ch _ _ _ _) (setCell_blk h _)⟩
theorem pUnsafe {w : World} {b o : Nat} {T : TypeId} {l : List Value} {v : Value} {K : Value → World → Prop} (h : Blk w b T l) (hv : l[o]? = some v) (k : K (ptr b o) w) : pRun P (convert 345 349 (ptr b o)) K w := by
  unfold pRun okThen
  rw [run_convert_to_unsafe (P := P) (src := 345) (dst := 349) (t := 327) (by kernel_rfl) (by kernel_rfl) (by kernel_rfl) (a := ⟨b, o, none⟩) (v := v) (by rw [cell_blk h, hv])]
  exact k
theorem Lock_free {w : World} {b o : Nat} {T : TypeId} {l : List Value} {K : Value → World → Prop} (h : Blk w b T l) (hv : l[o]? = some (.int .i32 0))
    (k : ∀ w1, Ch (· = b) w w1 → Blk w1 b T (l.set o (.int .i32 1)) → K (.tuple #[]) w1) : pCall P 283 [ptr b o] K w := by
  refine c283 ?_
  unfold G283
  simp
  refine c285 ?_
  unfold G285
  refine xDisable ?_
  simp
  refine xCas32 h hv fun w1 hc1 h1 => ?_
  simp
  refine xEnable ?_
  have hl : o < l.length := (List.getElem?_eq_some_iff.1 hv).1
  refine pUnsafe h1 (v := .int .i32 1) (by rw [List.getElem?_set_self hl]) ?_
  exact xAcquire (k w1 hc1 h1)
theorem Unlock_held_G {w : World} {b o : Nat} {T : TypeId} {l : List Value} {K : Value → World → Prop} (h : Blk w b T l) (hv : l[o]? = some (.int .i32 1))
    (k : ∀ w1, Ch (· = b) w w1 → Blk w1 b T (l.set o (.int .i32 0)) → K (.tuple #[]) w1) : G284 (ptr b o) K w := by
  unfold G284
  simp
  refine c286 ?_
  unfold G286
  refine pJoin0_in ?_
  simp
  refine pLd1 h lay_21 hv ?_
  refine pUnsafe h hv ?_
  refine xReleaseMerge ?_
  refine xDisable ?_
  refine xAdd32 h hv fun w1 hc1 h1 => ?_
  have e : IntKind.i32.wrap (1 + -1) = 0 := by rfl
  rw [e] at h1 ⊢
  simp
  exact xEnable (k w1 hc1 h1)
/-- The lock is let go, by a call that was deferred. -/
theorem Unlock_D {w : World} {b o : Nat} {T : TypeId} {l : List Value} {u : FrameMode} (h : Blk w b T l) (hv : l[o]? = some (.int .i32 1)) :
    CallsD P 284 #[ptr b o] u w fun e u' w' => u' = u ∧ e = .returned (.tuple #[]) ∧ Ch (· = b) w w' ∧ Blk w' b T (l.set o (.int .i32 0)) := by
  have hG := Unlock_held_G (K := fun v w' => v = .tuple #[] ∧ Ch (· = b) w w' ∧ Blk w' b T (l.set o (.int .i32 0))) h hv fun w1 hc h1 => ⟨rfl, hc, h1⟩
  rw [← tr284] at hG
  refine (trF_soundD mixed Tryz.func284 hG).mono ?_
  rintro e u' w' ⟨hu, hr⟩
  cases e with
  | returned v => obtain ⟨rfl, h1, h2⟩ := hr; exact ⟨hu, rfl, h1, h2⟩
  | panicked c => exact hr.elim
  | outgrown => exact hr.elim
/-- It is told that it was done, by a call that was deferred. -/
theorem Store_D {w : World} {b o : Nat} {T : TypeId} {l : List Value} {x y : Bool} {u : FrameMode} (h : Blk w b T l) (hv : l[o]? = some (bit x)) :
    CallsD P 147 #[ptr b o, .bool y] u w fun e u' w' => u' = u ∧ e = .returned (.tuple #[]) ∧ Ch (· = b) w w' ∧ Blk w' b T (l.set o (bit y)) := by
  have hG : G147 (ptr b o) (.bool y) (fun v w' => v = .tuple #[] ∧ Ch (· = b) w w' ∧ Blk w' b T (l.set o (bit y))) w := by
    unfold G147
    refine pDraw_fr (fun _ => True) fun w1 hf hb _ => ⟨trivial, ?_⟩
    simp
    refine b32_spec ?_
    refine xStore32 (hb _ _ _ h) hv fun w2 hc h2 => ⟨hf.ch.trans hc fun _ _ h => h, h2⟩
  rw [← tr147] at hG
  refine (trF_soundD mixed Tryz.func147 hG).mono ?_
  rintro e u' w' ⟨hu, hr⟩
  cases e with
  | returned v => obtain ⟨rfl, h1, h2⟩ := hr; exact ⟨hu, rfl, h1, h2⟩
  | panicked c => exact hr.elim
  | outgrown => exact hr.elim
end Go.Al

namespace Go.Al
open Go Go.Proofs
theorem pCall_calls {f : FuncId} {args : List Value} {K : Value → World → Prop} {w : World} (h : pCall P f args K w) : Calls P f args.toArray w (retK K) := by
  unfold pCall at h
  exact h.2
set_option maxRecDepth 100000 in
set_option maxHeartbeats 1600000 in
theorem Once_slow {w : World} {b o : Nat} {T : TypeId} {l : List Value} {f : FuncId} {first : Array Value} (Q : List Value → Prop) (h : Blk w b T l) (h0 : l[o]? = some (bit false)) (h1 : l[o + 1]? = some (.int .i32 0))
    (hf : ∀ w1, Ch (· = b) w w1 → Blk w1 b T (l.set (o + 1) (.int .i32 1)) → pCall P f first.toList (fun v w2 => v = .tuple #[] ∧ ∃ l2, Ch (· = b) w1 w2 ∧ Blk w2 b T l2 ∧ l2[o]? = some (bit false) ∧ l2[o + 1]? = some (.int .i32 1) ∧ Q l2) w1) :
    Calls P 282 #[ptr b o, .func (.func f) first #[]] w fun e w' => e = .returned (.tuple #[]) ∧ ∃ l2, Ch (· = b) w w' ∧ Q l2 ∧ Blk w' b T ((l2.set o (bit true)).set (o + 1) (.int .i32 0)) := by
  go_enter_defers Tryz.func282, Tryz.ntmps282
  go_wp2_with (go_at_call 283; refine (pCall_calls (Lock_free (K := fun v w1 => v = .tuple #[] ∧ Ch (· = b) w w1 ∧ Blk w1 b T (l.set (o + 1) (.int .i32 1))) h h1 fun w1 hc hb => ⟨rfl, hc, hb⟩)).mono ?_; rintro e w1 hr)
  obtain ⟨rfl, hc1, hb1⟩ := hr
  have ho : o < l.length := (List.getElem?_eq_some_iff.1 h0).1
  have ho1 : o + 1 < l.length := (List.getElem?_eq_some_iff.1 h1).1
  have hl0 : (l.set (o + 1) (.int .i32 1))[o]? = some (bit false) := by rw [List.getElem?_set_ne (by omega)]; exact h0
  refine (pCall_calls (BoolLoad (K := fun v w2 => v = .bool false ∧ w2 = w1) hb1 hl0 ⟨rfl, rfl⟩)).mono ?_
  rintro e w2 hr2
  cases e with
  | panicked c => exact hr2.elim
  | outgrown => exact hr2.elim
  | returned v =>
  obtain ⟨rfl, rfl⟩ := hr2
  have hnot : ∀ (x : Bool) (w : World), (Op.unary .not (.bool x)).run P w = .ok (.bool (!x)) w := fun _ _ => rfl
  go_wp2
  have hcall := hf w2 hc1 hb1
  have hbody : hasBody P f = true := by unfold pCall at hcall; exact hcall.1
  have hcalls := pCall_calls hcall
  rw [show first.toList.toArray = first by simp] at hcalls
  rw [callFunc_body hbody]
  unfold Oper.upon
  refine hcalls.mono ?_
  rintro e w3 hr3
  cases e with
  | panicked c => exact hr3.elim
  | outgrown => exact hr3.elim
  | returned v =>
  obtain ⟨rfl, l2, hc3, hb3, g0, g1, hQ⟩ := hr3
  simp only
  go_wp2

  unfold bodyPostD
  refine leaves_cons (f := 147) (args := #[ptr b o, .bool true]) (by simp) (by simp [go_sem]) ?_
  refine (Store_D (y := true) hb3 g0).mono ?_
  rintro e u' w4 ⟨rfl, rfl, hc4, hb4⟩
  simp only
  refine leaves_cons (f := 284) (args := #[ptr b (o + 1)]) (by simp [settle]) (by simp [go_sem]) ?_
  have hg : (l2.set o (bit true))[o + 1]? = some (.int .i32 1) := by rw [List.getElem?_set_ne (by omega)]; exact g1
  refine (Unlock_D hb4 hg).mono ?_
  rintro e u' w5 ⟨rfl, rfl, hc5, hb5⟩
  simp only
  have hall : Ch (· = b) w w5 := ((hc1.trans hc3 fun _ _ h => h).trans hc4 fun _ _ h => h).trans hc5 fun _ _ h => h
  simp only [settle, Leaves]
  refine ⟨.tuple #[], ?_, rfl, l2, hall, hQ, hb5⟩
  first
  | simp [results, Tryz.results282]
  | exact results_none Tryz.results282 _ _ _
end Go.Al

namespace Go.Al
open Go Go.Proofs
/-- What a byte makes of a register: n rounds. -/
def crcStep (v : Nat) : Nat := if v % 2 = 1 then (v / 2) ^^^ 2197175160 else v / 2
def crcRow (v : Nat) : Nat → Nat
  | 0 => v
  | n + 1 => crcStep (crcRow v n)
def crcOn (v : Nat) : List UInt8 → Nat
  | [] => v
  | b :: bs => crcOn ((v / 256) ^^^ crcRow ((v % 256) ^^^ b.toNat) 8) bs
/-- The sum of bytes. -/
@[irreducible] def sumOf (bs : List UInt8) : Nat := 4294967295 - crcOn 4294967295 bs
theorem crcStep_lt {v : Nat} (h : v < 4294967296) : crcStep v < 4294967296 := by
  unfold crcStep
  split
  · exact Nat.xor_lt_two_pow (n := 32) (by omega) (by omega)
  · omega
theorem crcRow_lt {v : Nat} (h : v < 4294967296) : ∀ n, crcRow v n < 4294967296
  | 0 => h
  | n + 1 => crcStep_lt (crcRow_lt h n)
theorem crcOn_lt : ∀ (bs : List UInt8) {v : Nat}, v < 4294967296 → crcOn v bs < 4294967296
  | [], _, h => h
  | b :: bs, v, h => by
    refine crcOn_lt bs ?_
    have hb := b.toNat_lt
    have h1 : (v % 256) ^^^ b.toNat < 2 ^ 8 := Nat.xor_lt_two_pow (n := 8) (by omega) (by omega)
    exact Nat.xor_lt_two_pow (n := 32) (by omega) (crcRow_lt (by omega) 8)
abbrev u32 (n : Nat) : Value := .int .u32 (n : Int)
theorem u32_xor {a c : Nat} (ha : a < 4294967296) (hc : c < 4294967296) : binV P .xor 158 (u32 a) (u32 c) = some (u32 (a ^^^ c)) := by
  have hx : a ^^^ c < 4294967296 := Nat.xor_lt_two_pow (n := 32) ha hc
  simp only [binV, intV, if_true]
  congr 2
  have hbits : IntKind.u32.bits = 32 := rfl
  rw [hbits, BitVec.ofInt_natCast, BitVec.ofInt_natCast, BitVec.toNat_xor, BitVec.toNat_ofNat, BitVec.toNat_ofNat, Nat.mod_eq_of_lt ha, Nat.mod_eq_of_lt hc, IntKind.wrap_u32]
  omega
theorem u8_xor {a c : Nat} (ha : a < 256) (hc : c < 256) : binV P .xor 5 (.int .u8 (a : Int)) (.int .u8 (c : Int)) = some (.int .u8 ((a ^^^ c : Nat) : Int)) := by
  have hx : a ^^^ c < 256 := Nat.xor_lt_two_pow (n := 8) ha hc
  simp only [binV, intV, if_true]
  congr 2
  have hbits : IntKind.u8.bits = 8 := rfl
  rw [hbits, BitVec.ofInt_natCast, BitVec.ofInt_natCast, BitVec.toNat_xor, BitVec.toNat_ofNat, BitVec.toNat_ofNat, Nat.mod_eq_of_lt ha, Nat.mod_eq_of_lt hc, IntKind.wrap_u8]
  omega
theorem u32_and1 {a : Nat} (ha : a < 4294967296) : binV P .and 158 (u32 a) (.int .u32 1) = some (u32 (a % 2)) := by
  simp only [binV, intV, if_true]
  congr 2
  have hbits : IntKind.u32.bits = 32 := rfl
  have h1 : BitVec.ofInt 32 1 = BitVec.ofNat 32 1 := rfl
  rw [hbits, BitVec.ofInt_natCast, h1, BitVec.toNat_and, BitVec.toNat_ofNat, BitVec.toNat_ofNat, Nat.mod_eq_of_lt ha, IntKind.wrap_u32, Nat.mod_eq_of_lt (show 1 < 2 ^ 32 by omega), Nat.and_one_is_mod]
  omega
theorem u32_shr {a k : Nat} (hk : k ≤ 32) : binV P .shr 158 (u32 a) (.int .u64 (k : Int)) = some (u32 (a / 2 ^ k)) := by
  rw [binV_shr _ _ _ _ (by omega)]
  have hbits : IntKind.u32.bits = 32 := rfl
  rw [hbits, Int.toNat_natCast, Nat.min_eq_left hk, Int.fdiv_eq_ediv_of_nonneg _ (by exact Int.le_of_lt (Int.pow_pos (by omega)))]
  congr 2
theorem u32_not {a : Nat} (ha : a < 4294967296) : unV .xor (u32 a) = some (u32 (4294967295 - a)) := by
  unfold unV
  simp only
  congr 2
  have hbits : IntKind.u32.bits = 32 := rfl
  have hm : (if IntKind.u32.signed then (-1 : Int) else IntKind.u32.max) = 4294967295 := rfl
  rw [hbits, hm]
  have h1 : BitVec.ofInt 32 4294967295 = BitVec.allOnes 32 := by rfl
  rw [h1, BitVec.ofInt_natCast, BitVec.allOnes_xor, BitVec.toNat_not, BitVec.toNat_ofNat, Nat.mod_eq_of_lt ha, IntKind.wrap_u32]
  omega
theorem Sum_make {w : World} {b : Nat} {l : List Value} {K : Value → World → Prop} (h : Blk w b 334 l) (hl : l.length = 259)
    (k : ∀ w1 l1, Ch (· = b) w w1 → Blk w1 b 334 l1 → l1.length = 259 → (∀ j, j < 3 → l1[j]? = l[j]?) → (∀ j, j < 256 → l1[3 + j]? = some (u32 (crcRow j 8))) → K (.tuple #[]) w1) : pCall P 280 [ptr b 0] K w := by
  refine c280 ?_
  unfold G280
  refine loop1_up 256 (fun i w' => ∃ l1, Ch (· = b) w w' ∧ Blk w' b 334 l1 ∧ l1.length = 259 ∧ (∀ j, j < 3 → l1[j]? = l[j]?) ∧ (∀ j, j < i → l1[3 + j]? = some (u32 (crcRow j 8)))) ⟨l, Ch.refl _ _, h, hl, fun _ _ => rfl, fun j hj => by omega⟩ ?_
  rintro i w1 ag hag hi ⟨l1, hc1, h1, hl1, h3, hr⟩
  by_cases hlt : i < 256
  rotate_left
  · have : ¬ (i : Int) < 256 := by omega
    simp [this]
    obtain rfl : i = 256 := by omega
    exact k w1 l1 hc1 h1 hl1 h3 hr
  have hlt' : (i : Int) < 256 := by omega
  simp only [binV_lss, pVal_some, pIf_bool, decide_eq_true hlt', if_true]
  have hcv : convV P 3 158 (i64 i) = some (u32 i) := by
    simp [convV]
    rw [IntKind.wrap_u32]; omega
  rw [hcv, pVal_some]
  refine loop2_upR 0 8 (fun r a w' => w' = w1 ∧ a = u32 (crcRow i r)) (by omega) ⟨rfl, rfl⟩ ?_
  rintro r _ w2 ag2 hag2 _ hr8 ⟨rfl, rfl⟩
  have hv := crcRow_lt (show i < 4294967296 by omega) r
  by_cases hr' : r < 8
  · have hr'' : (r : Int) < 8 := by omega
    simp only [binV_lss, pVal_some, pIf_bool, decide_eq_true hr'', if_true]
    rw [u32_and1 hv, pVal_some]
    have e1 : (Value.int .u64 1) = .int .u64 ((1 : Nat) : Int) := rfl
    rw [e1, u32_shr (by omega), pVal_some, Nat.pow_one]
    by_cases hodd : crcRow i r % 2 = 1
    · simp [hodd]
      have e2 : binV P .xor 158 (u32 (crcRow i r / 2)) (.int .u32 2197175160) = some (u32 ((crcRow i r / 2) ^^^ 2197175160)) := u32_xor (a := crcRow i r / 2) (c := 2197175160) (by omega) (by omega)
      rw [e2, pVal_some, wrap_succ (by omega)]
      refine hag2 (r + 1) _ _ (by omega) (by omega) ⟨rfl, ?_⟩
      show _ = u32 (crcStep (crcRow i r))
      unfold crcStep; rw [if_pos hodd]
    · have hev : crcRow i r % 2 = 0 := by omega
      simp [hev]
      rw [wrap_succ (by omega)]
      refine hag2 (r + 1) _ _ (by omega) (by omega) ⟨rfl, ?_⟩
      show _ = u32 (crcStep (crcRow i r))
      unfold crcStep; rw [if_neg hodd]
  · have hr'' : ¬ (r : Int) < 8 := by omega
    obtain rfl : r = 8 := by omega
    simp
    rw [if_pos hlt', pVal_some]
    refine pSt1 h1 lay_158 rfl rfl (by omega) fun w3 hc3 hb3 => ?_
    rw [wrap_succ (by omega)]
    refine hag (i + 1) _ (by omega) (by omega) ⟨_, hc1.trans hc3 fun _ _ h => h, hb3, by simpa using hl1, fun j hj => ?_, fun j hj => ?_⟩
    · rw [List.getElem?_set_ne (by omega)]; exact h3 j hj
    · by_cases hji : j = i
      · subst hji; rw [List.getElem?_set_self (by omega)]
      · rw [List.getElem?_set_ne (by omega)]; exact hr j (by omega)
end Go.Al

namespace Go.Al
open Go Go.Proofs
theorem calls_pCall {f : FuncId} {args : List Value} {K : Value → World → Prop} {w : World} (hb : hasBody P f = true) (h : Calls P f args.toArray w (retK K)) : pCall P f args K w := by
  unfold pCall
  exact ⟨hb, h⟩
theorem Once_Do {w : World} {b : Nat} {l : List Value} {K : Value → World → Prop} (h : Blk w b 334 l) (hl : l.length = 259) (h0 : l[0]? = some (bit false)) (h1 : l[1]? = some (.int .i32 0))
    (k : ∀ w1 l1, Ch (· = b) w w1 → Blk w1 b 334 l1 → (∀ j, j < 256 → l1[3 + j]? = some (u32 (crcRow j 8))) → K (.tuple #[]) w1) : pCall P 279 [ptr b 0, .func (.func 280) #[ptr b 0] #[]] K w := by
  refine c279 ?_
  unfold G279
  simp
  refine BoolLoad h h0 ?_
  simp
  refine calls_pCall (by kernel_rfl) ?_
  refine (Once_slow (o := 0) (fun l2 => l2.length = 259 ∧ ∀ j, j < 256 → l2[3 + j]? = some (u32 (crcRow j 8))) h h0 h1 fun w1 hc1 hb1 => ?_).mono ?_
  · refine Sum_make hb1 (by simpa using hl) fun w2 l2 hc2 hb2 hl2 h3 hr => ?_
    refine ⟨rfl, l2, hc2, hb2, ?_, ?_, hl2, hr⟩
    · rw [h3 0 (by omega), List.getElem?_set_ne (by omega)]; exact h0
    · rw [h3 1 (by omega), List.getElem?_set_self (by omega)]
  · rintro e w' ⟨rfl, l2, hc, ⟨hl2, hr⟩, hb⟩
    refine k w' _ hc hb fun j hj => ?_
    rw [List.getElem?_set_ne (by omega), List.getElem?_set_ne (by omega)]
    exact hr j hj
theorem crcOn_snoc : ∀ (bs : List UInt8) (b : UInt8) (v : Nat), crcOn v (bs ++ [b]) = (crcOn v bs / 256) ^^^ crcRow ((crcOn v bs % 256) ^^^ b.toNat) 8
  | [], _, _ => rfl
  | a :: bs, b, v => by
    show crcOn _ (bs ++ [b]) = _
    rw [crcOn_snoc bs b]
    rfl
theorem Sum_on {w : World} {b v : Nat} {l : List Value} {bv : Value} {bs : List UInt8} {K : Value → World → Prop} (h : Blk w b 334 l) (hl : l.length = 259) (h0 : l[0]? = some (bit false)) (h1 : l[1]? = some (.int .i32 0))
    (hv : v < 4294967296) (hbs : Bytes w bv bs) (hbb : ∀ c, live bv = some c → c ≠ b) (h63 : bs.length ≤ 1000000000)
    (k : ∀ w1, Ch (· = b) w w1 → K (u32 (crcOn v bs)) w1) : pCall P 274 [ptr b 0, u32 v, bv] K w := by
  refine c274 ?_
  unfold G274
  simp only [pNil_ptr]
  have hf0 : fieldV P 334 (ptr b 0) 0 = some (ptr b 0) := by simp
  rw [hf0, pVal_some]
  refine Once_Do h hl h0 h1 fun w1 l1 hc1 hb1 hr => ?_
  have hbs1 : Bytes w1 bv bs := hbs.ch hc1 fun c hc => hbb c hc
  rw [hbs1.len (by simp), pVal_some]
  refine loop2_upR 0 bs.length (fun i a w' => w' = w1 ∧ a = u32 (crcOn v (bs.take i))) (Nat.zero_le _) ⟨rfl, rfl⟩ ?_
  rintro i _ w2 ag hag _ hi ⟨rfl, rfl⟩
  by_cases hlt : i < bs.length
  rotate_left
  · have : ¬ (i : Int) < bs.length := by omega
    simp [this]
    obtain rfl : i = bs.length := by omega
    rw [List.take_of_length_le (Nat.le_refl _)]
    exact k _ hc1
  have hlt' : (i : Int) < bs.length := by omega
  simp only [binV_lss, pVal_some, pIf_bool, decide_eq_true hlt', if_true]
  refine hbs1.get hlt ?_
  have hvi := crcOn_lt (bs.take i) hv
  generalize hcv : crcOn v (bs.take i) = cv at *
  have hb := bs[i].toNat_lt
  have e8 : (Value.int .u64 8) = .int .u64 ((8 : Nat) : Int) := rfl
  rw [e8, u32_shr (by omega), pVal_some]
  have hcb : convV P 158 5 (u32 cv) = some (.int .u8 ((cv % 256 : Nat) : Int)) := by
    simp [convV]
    rw [IntKind.wrap_u8]
  rw [hcb, pVal_some, u8_xor (by omega) hb, pVal_some]
  have hx : (cv % 256) ^^^ bs[i].toNat < 256 := Nat.xor_lt_two_pow (n := 8) (by omega) hb
  generalize hxx : (cv % 256) ^^^ bs[i].toNat = x at *
  have hf1 : fieldV P 334 (ptr b 0) 1 = some (ptr b 3) := by simp
  rw [hf1, pVal_some]
  have hix : indexV P 332 (ptr b 3) (.int .u8 (x : Int)) = some (ptr b (3 + x)) := by
    simp; omega
  rw [hix, pVal_some]
  refine pLd1 hb1 lay_158 (hr x hx) ?_
  have hrow := crcRow_lt (show x < 4294967296 by omega) 8
  rw [u32_xor (by omega) hrow, pVal_some]
  rw [binV_add, pVal_some, wrap_succ (by omega)]
  refine hag (i + 1) _ _ (by omega) (by omega) ⟨rfl, ?_⟩
  have ht : bs.take (i + 1) = bs.take i ++ [bs[i]] := by rw [List.take_add_one, List.getElem?_eq_getElem hlt]; rfl
  rw [ht, crcOn_snoc, hcv, hxx]
theorem zero_sumtable : zeroP P 334 = some (.agg ([bit false, .int .i32 0, u32 0] ++ List.replicate 256 (u32 0)).toArray) := by kernel_rfl
theorem Sum_On {w : World} {s : Nat} {bv : Value} {bs : List UInt8} {K : Value → World → Prop} (hs : s < 4294967296) (hbs : Bytes w bv bs) (h63 : bs.length ≤ 1000000000)
    (k : ∀ w1, Fr w w1 → K (u32 (4294967295 - crcOn (4294967295 - s) bs)) w1) : pCall P 257 [u32 s, bv] K w := by
  refine c257 ?_
  unfold G257
  refine pAlloc_of ([bit false, .int .i32 0, u32 0] ++ List.replicate 256 (u32 0)) zero_sumtable (by rfl) fun b w1 hb hbl hf h1 => ?_
  rw [u32_not hs, pVal_some]
  refine Sum_on h1 (by rw [List.length_append, List.length_replicate]; rfl) rfl rfl (by omega) (hbs.fr hf) (fun c hc he => by have := hbs.live_lt hc; omega) h63 fun w2 hc2 => ?_
  have := crcOn_lt bs (show 4294967295 - s < 4294967296 by omega)
  rw [u32_not this, pVal_some]
  exact k w2 (Ch.new hf hb hc2)
theorem Sum_Of {w : World} {bv : Value} {bs : List UInt8} {K : Value → World → Prop} (hbs : Bytes w bv bs) (h63 : bs.length ≤ 1000000000) (k : ∀ w1, Fr w w1 → K (u32 (sumOf bs)) w1) : pCall P 231 [bv] K w := by
  refine c231 ?_
  unfold G231
  exact Sum_On (s := 0) (by omega) hbs h63 fun w1 hf => by have := k w1 hf; unfold sumOf at this; exact this
end Go.Al

namespace Go.Al
open Go Go.Proofs
def frameHead (kind : Int) (body : List UInt8) : List UInt8 := putM (putM [] kind 1) body.length 2 ++ body
def frameMake (kind : Int) (body : List UInt8) : Int × List UInt8 :=
  if fitsM kind 1 = false then (1, []) else if 65535 < body.length then (3, []) else (0, putM (frameHead kind body) (sumOf (frameHead kind body)) 4)
theorem putM_length (bs : List UInt8) (x n : Int) : (putM bs x n).length ≤ bs.length + 4 := by
  unfold putM
  split
  · rename_i h
    have : n = 1 ∨ n = 2 ∨ n = 4 := by unfold fitsM sizedM at h; simp at h; exact h.1
    rw [List.length_append, leM_length]; omega
  · omega
theorem sumOf_lt (bs : List UInt8) : sumOf bs < 4294967296 := by unfold sumOf; omega
theorem conv_sum (n : Nat) (h : n < 4294967296) : convV P 158 3 (u32 n) = some (i64 n) := by
  simp [convV]
  rw [wrap_in (by omega) (by omega)]
theorem Frame_Make {w : World} {kind : Int} {v : Value} {body : List UInt8} {K : Value → World → Prop} (h : Bytes w v body) (h63 : body.length ≤ 1000000)
    (k : ∀ v' w', Bytes w' v' (frameMake kind body).2 → Fr w w' → Fresh w v' → K (.tuple #[v', i64 (frameMake kind body).1]) w') : pCall P 200 [i64 kind, v] K w := by
  refine c200 ?_
  unfold G200
  refine Word_Fits (n := 1) ?_
  unfold frameMake at k
  by_cases g1 : fitsM kind 1 = true
  rotate_left
  · have g1' : fitsM kind 1 = false := by simpa using g1
    rw [if_pos g1'] at k
    simp [g1']
    exact k _ w (Bytes.nil _) (Ch.refl _ _) (Fresh.nil _)
  rw [if_neg (by simp [g1])] at k
  simp [g1]
  rw [h.len (by simp), pVal_some]
  simp
  by_cases g2 : 65535 < body.length
  · have : (65535 : Int) < body.length := by omega
    rw [if_pos g2] at k
    simp [this]
    exact k _ w (Bytes.nil _) (Ch.refl _ _) (Fresh.nil _)
  have g2' : ¬ (65535 : Int) < body.length := by omega
  rw [if_neg g2] at k
  simp [g2']
  refine Word_Put (n := 1) (Bytes.nil w) (by simp) fun v1 w1 hs1 hf1 hr1 => ?_
  refine Word_Put (n := 2) hs1 (by have := putM_length [] kind 1; simp at this; omega) fun v2 w2 hs2 hf2 hr2 => ?_
  have l1 := putM_length [] kind 1
  have l2 := putM_length (putM [] kind 1) body.length 2
  simp at l1
  have hf02 := hf1.trans hf2
  refine pAppend sli_byte hs2 (h.fr hf02) cB_one (by omega) (by omega) fun v3 w3 hs3 hc3 hl3 => ?_
  have hr02 : Fresh w v2 := fun c hc => Nat.le_trans hf1.size (hr2 c hc)
  have hf03 : Fr w w3 := Fr.fresh hf02 hc3 hr02
  have hr3 : Fresh w v3 := fun c hc => by
    rcases hl3 with hl | ⟨z, hz, hle⟩
    · exact hr02 c (by rw [← hl]; exact hc)
    · rw [hz] at hc; cases hc; exact Nat.le_trans hf02.size hle
  have hs3' : Bytes w3 v3 (frameHead kind body) := hs3
  have hl : (frameHead kind body).length ≤ 2000000 := by unfold frameHead; rw [List.length_append]; omega
  refine Sum_Of hs3' (by omega) fun w4 hf4 => ?_
  rw [conv_sum _ (sumOf_lt _), pVal_some]
  refine Word_Put (n := 4) (hs3'.fr hf4) (by omega) fun v5 w5 hs5 hf5 hr5 => ?_
  simp only at k
  generalize sumOf (frameHead kind body) = sm at *
  exact k v5 w5 hs5 ((hf03.trans hf4).trans hf5) fun c hc => Nat.le_trans (hf03.trans hf4).size (hr5 c hc)
end Go.Al

namespace Go.Al
open Go Go.Proofs
structure OpenM where
  e : Int
  kind : Nat
  body : List UInt8
  size : Nat
def frameKind (b : List UInt8) : Nat := ((⟨b, 0⟩ : RdM).number 1).1
def frameR1 (b : List UInt8) : RdM := ((⟨b, 0⟩ : RdM).number 1).2
def frameN (b : List UInt8) : Nat := ((frameR1 b).number 2).1
def frameR2 (b : List UInt8) : RdM := ((frameR1 b).number 2).2
def frameOpen (b : List UInt8) : OpenM :=
  if (frameR2 b).bs.length < frameN b + 4 ∨ b.length < 3 then ⟨2, 0, [], 0⟩ else
  if ((⟨b.drop (3 + frameN b), 0⟩ : RdM).number 4).1 ≠ sumOf (b.take (3 + frameN b)) then ⟨14, 0, [], 0⟩ else
  ⟨0, frameKind b, (b.take (3 + frameN b)).drop 3, 3 + frameN b + 4⟩
theorem frameR2_len {b : List UInt8} (h : 3 ≤ b.length) : frameR2 b = ⟨b.drop 3, 0⟩ := by
  unfold frameR2 frameR1 RdM.number
  have e1 : (⟨b, 0⟩ : RdM).next 1 = (b.take 1, ⟨b.drop 1, 0⟩) := by
    unfold RdM.next
    rw [if_neg (by simp), if_neg (by simp only; omega)]
  rw [e1]
  have e2 : (⟨b.drop 1, 0⟩ : RdM).next 2 = ((b.drop 1).take 2, ⟨(b.drop 1).drop 2, 0⟩) := by
    unfold RdM.next
    rw [if_neg (by simp), if_neg (by simp only [List.length_drop]; omega)]
  simp only [e2, List.drop_drop]
theorem Frame_Open {w : World} {v : Value} {b : List UInt8} {K : Value → World → Prop} (h : Bytes w v b) (h63 : b.length ≤ 1000000)
    (k : ∀ v' w', Bytes w' v' (frameOpen b).body → Fr w w' → Fresh w v' → K (.tuple #[i64 (frameOpen b).kind, v', i64 (frameOpen b).size, i64 (frameOpen b).e]) w') : pCall P 222 [v] K w := by
  refine c222 ?_
  unfold G222
  refine Word_Read h h63 fun rb w1 hrb hf1 h1 => ?_
  refine Reader_Number (n := 1) h1 (by omega) fun w2 hc2 h2 => ?_
  refine Reader_Number (n := 2) h2 (by omega) fun w3 hc3 h3 => ?_
  have hf3 : Fr w w3 := Ch.trans' (Ch.trans' hf1 hrb hc2) hrb hc3
  change RdR w3 rb (frameR2 b) at h3
  have hN : ((((⟨b, 0⟩ : RdM).number 1).2).number 2).1 = frameN b := rfl
  have hKd : ((⟨b, 0⟩ : RdM).number 1).1 = frameKind b := rfl
  rw [hN, hKd]
  have hn16 : frameN b ≤ 65535 := by
    unfold frameN RdM.number
    have hl : ((frameR1 b).next 2).1.length ≤ 2 := by
      unfold RdM.next
      split
      · simp
      · split
        · simp
        · simp; omega
    have h1 := unle_lt ((frameR1 b).next 2).1
    have h2 : 256 ^ ((frameR1 b).next 2).1.length ≤ 256 ^ 2 := Nat.pow_le_pow_right (by omega) hl
    simp only
    omega
  have h3l := h3
  generalize hNn : frameN b = n at *
  generalize hKk : frameKind b = kd at *
  refine join1 (fun a w' => a = i64 kd ∧ w' = w3 ∧ ¬ ((frameR2 b).bs.length < n + 4 ∨ b.length < 3)) ?_ ?_
  rotate_left
  · intro J hJ
    refine Reader_Left h3 ?_
    simp
    rw [wrap_in (x := (n : Int) + 4) (by omega) (by omega)]
    by_cases g1 : (frameR2 b).bs.length < n + 4
    · have g1' : ((frameR2 b).bs.length : Int) < (n : Int) + 4 := by omega
      simp [g1']
      have e : frameOpen b = ⟨2, 0, [], 0⟩ := by unfold frameOpen; rw [hNn, if_pos (.inl g1)]
      have := k (.slice none 0 0) w3 (by rw [e]; exact Bytes.nil _) hf3 (Fresh.nil _)
      rw [e] at this
      exact this
    have g1' : ¬ ((frameR2 b).bs.length : Int) < (n : Int) + 4 := by omega
    simp [g1']
    rw [(h.fr hf3).len (by simp), pVal_some]
    simp
    by_cases g2 : b.length < 3
    · have g2' : (b.length : Int) < 3 := by omega
      simp [g2']
      have e : frameOpen b = ⟨2, 0, [], 0⟩ := by unfold frameOpen; rw [hNn, if_pos (.inr g2)]
      have := k (.slice none 0 0) w3 (by rw [e]; exact Bytes.nil _) hf3 (Fresh.nil _)
      rw [e] at this
      exact this
    · have g2' : ¬ (b.length : Int) < 3 := by omega
      simp [g2']
      exact hJ _ _ ⟨rfl, rfl, by omega⟩
  rintro _ w3' ⟨rfl, rfl, hng⟩
  have hb3 : 3 ≤ b.length := by omega
  have hup : 3 + n ≤ b.length := by
    rw [frameR2_len hb3] at hng
    simp only [List.length_drop] at hng
    omega
  simp
  have e26 : IntKind.i64.wrap (3 + (n : Int)) = ((3 + n : Nat) : Int) := by rw [wrap_in (by omega) (by omega)]; omega
  rw [e26]
  refine pDraw_fr (fun _ => True) fun w4 hf4 hb4 hs4 => ⟨trivial, ?_⟩
  have hf34 := hf3.trans hf4
  have hv4 := h.fr hf34
  obtain ⟨va, hva, hsa, hla⟩ := sl_slice (t := 227) (lo := some (i64 ((3 + n : Nat) : Int))) (hi := none) (l := 3 + n) (k := b.length) hv4 sli_byte (Nat.le_refl _) hup (fun c hc => rfl) (boundV_nat _ _ _ _ hup)
  obtain ⟨vb, hvb, hsb, hlb⟩ := sl_slice (t := 227) (lo := none) (hi := some (i64 ((3 + n : Nat) : Int))) (l := 0) (k := 3 + n) hv4 sli_byte hup (by omega) (fun c hc => boundV_nat _ _ _ _ (by omega)) rfl
  rw [hva, pVal_some, hvb, pVal_some]
  rw [List.take_of_length_le (Nat.le_refl _)] at hsa
  rw [List.drop_zero] at hsb
  refine Word_Read hsa (by simp; omega) fun rb2 w5 hrb2 hf5 h5 => ?_
  refine Reader_Number (n := 4) h5 (by omega) fun w6 hc6 h6 => ?_
  have hf46 : Fr w4 w6 := Ch.trans' hf5 hrb2 hc6
  refine Sum_Of (hsb.fr hf46) (by simp; omega) fun w7 hf7 => ?_
  rw [conv_sum _ (sumOf_lt _), pVal_some]
  simp only [binV_neq, pVal_some, pIf_bool]
  have hf07 := (hf34.trans hf46).trans hf7
  by_cases g : ((⟨b.drop (3 + n), 0⟩ : RdM).number 4).1 = sumOf (b.take (3 + n))
  · rw [g]
    simp
    obtain ⟨vc, hvc, hsc, hlc⟩ := sl_slice (t := 227) (lo := some (i64 ((3 : Nat) : Int))) (hi := some (i64 ((3 + n : Nat) : Int))) (l := 3) (k := 3 + n) (h.fr hf07) sli_byte hup (by omega) (fun c hc => boundV_nat _ _ _ _ (by omega)) (boundV_nat _ _ _ _ (by omega))
    have e3 : (3 + (n : Int)) = ((3 + n : Nat) : Int) := by omega
    have e4 : (3 : Int) = ((3 : Nat) : Int) := rfl
    have e5 : IntKind.i64.wrap (3 + (n : Int) + 4) = ((3 + n + 4 : Nat) : Int) := by rw [wrap_in (by omega) (by omega)]; omega
    rw [e5, e3]
    have hvc' : sliceV P 227 v (some (.int .i64 3)) (some (.int .i64 ((3 + n : Nat) : Int))) Option.none = some vc := hvc
    rw [hvc', pVal_some]
    refine Clone_byte hsc (by simp; omega) fun vd w8 hs8 hf8 hr8 => ?_
    have e : frameOpen b = ⟨0, kd, (b.take (3 + n)).drop 3, 3 + n + 4⟩ := by unfold frameOpen; rw [hNn, hKk, if_neg hng, if_neg (by simpa using g)]
    have := k vd w8 (by rw [e]; exact hs8) (hf07.trans hf8) (fun c hc => Nat.le_trans hf07.size (hr8 c hc))
    rw [e] at this
    exact this
  · have g' : ¬ ((((⟨b.drop (3 + n), 0⟩ : RdM).number 4).1 : Nat) : Int) = ((sumOf (b.take (3 + n)) : Nat) : Int) := by omega
    simp [g']
    have e : frameOpen b = ⟨14, 0, [], 0⟩ := by unfold frameOpen; rw [hNn, if_neg hng, if_pos g]
    have := k (.slice none 0 0) w7 (by rw [e]; exact Bytes.nil _) hf07 (Fresh.nil _)
    rw [e] at this
    exact this
def frameWhole (b : List UInt8) (kind : Int) : Int × List UInt8 :=
  if (frameOpen b).e ≠ 0 then ((frameOpen b).e, []) else if ((frameOpen b).size : Int) ≠ b.length ∨ ((frameOpen b).kind : Int) ≠ kind then (2, []) else (0, (frameOpen b).body)
theorem Frame_Whole {w : World} {v : Value} {b : List UInt8} {kind : Int} {K : Value → World → Prop} (h : Bytes w v b) (h63 : b.length ≤ 1000000)
    (k : ∀ v' w', Bytes w' v' (frameWhole b kind).2 → Fr w w' → Fresh w v' → K (.tuple #[v', i64 (frameWhole b kind).1]) w') : pCall P 187 [v, i64 kind] K w := by
  refine c187 ?_
  unfold G187
  refine Frame_Open h h63 fun v1 w1 hs1 hf1 hr1 => ?_
  unfold frameWhole at k
  simp
  by_cases g1 : (frameOpen b).e = 0
  rotate_left
  · simp [g1]
    rw [if_pos g1] at k
    exact k _ w1 (Bytes.nil _) hf1 (Fresh.nil _)
  simp [g1]
  rw [if_neg (by simpa using g1)] at k
  rw [(h.fr hf1).len (by simp), pVal_some]
  simp
  by_cases g2 : ((frameOpen b).size : Int) = b.length
  rotate_left
  · simp [g2]
    rw [if_pos (.inl g2)] at k
    exact k _ w1 (Bytes.nil _) hf1 (Fresh.nil _)
  simp [g2]
  by_cases g3 : ((frameOpen b).kind : Int) = kind
  rotate_left
  · simp [g3]
    rw [if_pos (.inr g3)] at k
    exact k _ w1 (Bytes.nil _) hf1 (Fresh.nil _)
  simp [g3]
  rw [if_neg (by omega)] at k
  exact k _ w1 hs1 hf1 hr1
end Go.Al

namespace Go.Al
open Go Go.Proofs
structure TagM where
  tenant : Int
  epoch : Int
  place : Int
  seq : Int
  kind : Int
  copy : Bool
  deriving DecidableEq
def TagM.cells (t : TagM) : List Value := [i64 t.tenant, i64 t.epoch, i64 t.place, i64 t.seq, i64 t.kind, .bool t.copy]
def TagM.val (t : TagM) : Value := .agg t.cells.toArray
def TagM.zero : TagM := ⟨0, 0, 0, 0, 0, false⟩
def withinM (n most : Int) : Bool := decide (0 ≤ n ∧ n ≤ most)
def TagM.right (t : TagM) : Bool := withinM t.tenant 3 && withinM t.epoch 2147483647 && withinM t.place 63 && withinM t.seq 2147483647 && decide (t.kind = 1 ∨ t.kind = 2)
theorem Tag_within {w : World} {n m : Int} {K : Value → World → Prop} (k : K (.bool (withinM n m)) w) : pCall P 226 [i64 n, i64 m] K w := by
  refine c226 ?_
  unfold G226
  unfold withinM at k
  by_cases g : 0 ≤ n
  · simp [g] at k ⊢; exact k
  · simp [g] at k ⊢; exact k
theorem Tag_Right {w : World} {t : TagM} {K : Value → World → Prop} (k : ∀ w', Fr w w' → K (.bool t.right) w') : pCall P 192 [t.val] K w := by
  refine c192 ?_
  unfold G192
  refine pNew_of t.cells (by rfl) fun b w1 hb hbl hf h1 => ?_
  have k' := k w1 hf
  unfold TagM.right at k'
  simp
  refine pLd1 h1 lay_3 rfl ?_
  refine Tag_within ?_
  by_cases g1 : withinM t.tenant 3 = true
  rotate_left
  · simp [g1] at k' ⊢; exact k'
  simp [g1] at k' ⊢
  refine pLd1 h1 lay_3 rfl ?_
  refine Tag_within ?_
  by_cases g2 : withinM t.epoch 2147483647 = true
  rotate_left
  · simp [g2] at k' ⊢; exact k'
  simp [g2] at k' ⊢
  refine pLd1 h1 lay_3 rfl ?_
  refine Tag_within ?_
  by_cases g3 : withinM t.place 63 = true
  rotate_left
  · simp [g3] at k' ⊢; exact k'
  simp [g3] at k' ⊢
  refine pLd1 h1 lay_3 rfl ?_
  refine Tag_within ?_
  by_cases g4 : withinM t.seq 2147483647 = true
  rotate_left
  · simp [g4] at k' ⊢; exact k'
  simp [g4] at k' ⊢
  refine pLd1 h1 lay_3 rfl ?_
  simp
  by_cases g5 : t.kind = 1
  · simp [g5] at k' ⊢; exact k'
  simp [g5] at k' ⊢
  refine pLd1 h1 lay_3 rfl ?_
  simp
  exact k'
end Go.Al

namespace Go.Al
open Go Go.Proofs
def cPair (p : Int × Int) : List Value := [i64 p.1, i64 p.2]
theorem cPair_len (p : Int × Int) : (cPair p).length = 2 := rfl
theorem sli_pair : sliP P 313 = some (312, 2, 16) := by kernel_rfl
def TagM.pairs (t : TagM) : List (Int × Int) := [(t.tenant, 1), (t.epoch, 4), (t.place, 1), (t.seq, 4), (t.kind, 1)]
def putAll (bs : List UInt8) (ps : List (Int × Int)) : List UInt8 := ps.foldl (fun b p => putM b p.1 p.2) bs
def TagM.body (t : TagM) : List UInt8 := putM (putAll [] t.pairs) (if t.copy then 1 else 0) 1
def tagBytes (t : TagM) : Int × List UInt8 := if t.right = false then (1, []) else frameMake 84 t.body
theorem putAll_length : ∀ (ps : List (Int × Int)) (bs : List UInt8), (putAll bs ps).length ≤ bs.length + 4 * ps.length
  | [], bs => by simp [putAll]
  | p :: ps, bs => by
    have h1 := putAll_length ps (putM bs p.1 p.2)
    have h2 := putM_length bs p.1 p.2
    show (putAll (putM bs p.1 p.2) ps).length ≤ _
    simp only [List.length_cons]; omega
theorem Tag_Bytes {w : World} {t : TagM} {K : Value → World → Prop} (k : ∀ v' w', Bytes w' v' (tagBytes t).2 → Fr w w' → Fresh w v' → K (.tuple #[v', i64 (tagBytes t).1]) w') : pCall P 233 [t.val] K w := by
  refine c233 ?_
  unfold G233
  refine pNew_of t.cells (by rfl) fun b w1 hb hbl hf1 h1 => ?_
  refine pLdN t.cells h1 lay_182 (by simp [TagM.cells]) (by rfl) ?_
  refine Tag_Right fun w2 hf2 => ?_
  have h2 := hf2.blk h1 fun h => h
  have hf02 := hf1.trans hf2
  unfold tagBytes at k
  by_cases g : t.right = true
  rotate_left
  · have g' : t.right = false := by simpa using g
    rw [if_pos g'] at k
    simp [g']
    exact k _ w2 (Bytes.nil _) hf02 (Fresh.nil _)
  rw [if_neg (by simp [g])] at k
  simp [g]
  refine pLd1 h2 lay_3 rfl ?_
  simp [buildV_app, fillL, fillA, splice]
  refine pLd1 h2 lay_3 rfl ?_
  simp [buildV_app, fillL, fillA, splice]
  refine pLd1 h2 lay_3 rfl ?_
  simp [buildV_app, fillL, fillA, splice]
  refine pLd1 h2 lay_3 rfl ?_
  simp [buildV_app, fillL, fillA, splice]
  refine pLd1 h2 lay_3 rfl ?_
  simp [buildV_app, fillL, fillA, splice]
  refine pRowN t.pairs sli_pair cPair_len rfl (by omega) (by kernel_rfl) fun lv w3 hlv hf3 hfr3 => ?_
  rw [hlv.len (by simp), pVal_some]
  have hb3 := hf3.blk h2 fun h => h
  refine loop2_upR 0 t.pairs.length (fun i a w' => Fr w3 w' ∧ Bytes w' a (putAll [] (t.pairs.take i)) ∧ Fresh w3 a) (Nat.zero_le _) ⟨Ch.refl _ _, Bytes.nil _, Fresh.nil _⟩ ?_
  rintro i a w4 ag hag _ hi ⟨hf4, hs4, hr4⟩
  have hpl : t.pairs.length = 5 := rfl
  have hb4 := hf4.blk hb3 fun h => h
  have hlen := putAll_length (t.pairs.take i) []
  have htl : (t.pairs.take i).length = i := by simp; omega
  rw [htl] at hlen
  simp at hlen
  by_cases hlt : i < t.pairs.length
  · have hlt' : (i : Int) < t.pairs.length := by omega
    simp only [binV_lss, pVal_some, pIf_bool, decide_eq_true hlt', if_true]
    obtain ⟨p, hp⟩ : ∃ p, t.pairs[i]? = some p := ⟨t.pairs[i], List.getElem?_eq_getElem hlt⟩
    obtain ⟨eb, eo, eT, el, _, heb, hidx, heo, hec, _⟩ := Sl.at (hlv.fr hf4) hp (by omega)
    rw [hidx _ _ (by exact idx_313), pVal_some]
    refine pLdN (cPair p) heb lay_312 heo hec ?_
    refine pAlloc_of [i64 0, i64 0] zero_312 rfl fun pb w5 hpb hpbl hf5 h5 => ?_
    refine pStN (cPair p) h5 lay_312 rfl rfl (by simp) rfl fun w6 hc6 h6 => ?_
    have h6' : Blk w6 pb 312 [i64 p.1, i64 p.2] := h6
    have hf46 : Fr w4 w6 := Ch.new hf5 hpb hc6
    simp
    refine pLd1 h6' lay_3 rfl ?_
    refine pLd1 h6' lay_3 rfl ?_
    refine Word_Put (hs4.fr hf46) (by omega) fun v' w7 hs7 hf7 hr7 => ?_
    rw [wrap_succ (by omega)]
    have ht : t.pairs.take (i + 1) = t.pairs.take i ++ [p] := by rw [List.take_add_one, hp]; rfl
    refine hag (i + 1) _ _ (by omega) (by omega) ⟨(Fr.trans hf4 hf46).trans hf7, ?_, fun c hc => Nat.le_trans (Fr.trans hf4 hf46).size (hr7 c hc)⟩
    rw [ht]
    unfold putAll at hs7 ⊢
    rw [List.foldl_append]
    exact hs7
  · have hlt' : ¬ (i : Int) < t.pairs.length := by omega
    simp only [binV_lss, pVal_some, pIf_bool, decide_eq_false hlt', Bool.false_eq_true, if_false]
    obtain rfl : i = t.pairs.length := by omega
    rw [List.take_of_length_le (Nat.le_refl _)] at hs4 hlen
    refine join1 (fun v w' => v = i64 (if t.copy then 1 else 0) ∧ w' = w4) ?_ ?_
    rotate_left
    · intro J hJ
      refine pLd1 hb4 lay_4 rfl ?_
      by_cases gc : t.copy = true
      · simp [gc]; exact hJ _ _ ⟨by simp [gc], rfl⟩
      · simp [gc]; exact hJ _ _ ⟨by simp [gc], rfl⟩
    rintro _ w5 ⟨rfl, rfl⟩
    refine Word_Put (n := 1) hs4 (by omega) fun v' w6 hs6 hf6 hr6 => ?_
    have hlb : t.body.length ≤ 1000 := by
      have h1 := putM_length (putAll [] t.pairs) (if t.copy then 1 else 0) 1
      have h2 := putAll_length t.pairs []
      rw [hpl] at h2
      simp at h2
      unfold TagM.body
      omega
    have hs6' : Bytes w6 v' t.body := hs6
    refine Frame_Make (kind := 84) hs6' (by omega) fun v'' w7 hs7 hf7 hr7 => ?_
    have hf06 : Fr w w6 := ((hf02.trans hf3).trans hf4).trans hf6
    simp only [extractV_tuple, List.getElem?_toArray, List.getElem?_cons_zero, List.getElem?_cons_succ, pVal_some]
    exact k v'' w7 hs7 (hf06.trans hf7) fun c hc => Nat.le_trans hf06.size (hr7 c hc)
end Go.Al

namespace Go.Al
open Go Go.Proofs
structure TagRd where
  t : TagM
  r : RdM
def tagRead (body : List UInt8) : TagRd :=
  let r0 : RdM := ⟨body, 0⟩
  let a1 := r0.number 1
  let a2 := a1.2.number 4
  let a3 := a2.2.number 1
  let a4 := a3.2.number 4
  let a5 := a4.2.number 1
  let a6 := a5.2.flag
  ⟨⟨a1.1, a2.1, a3.1, a4.1, a5.1, a6.1⟩, a6.2⟩
def tagParse (b : List UInt8) : Int × TagM :=
  if (frameWhole b 84).1 ≠ 0 then ((frameWhole b 84).1, TagM.zero) else
  if (tagRead (frameWhole b 84).2).r.done.e ≠ 0 ∨ (tagRead (frameWhole b 84).2).t.right = false then (2, TagM.zero) else (0, (tagRead (frameWhole b 84).2).t)
theorem frameWhole_len (b : List UInt8) (k : Int) : (frameWhole b k).2.length ≤ b.length := by
  unfold frameWhole
  split
  · simp
  · split
    · simp
    · unfold frameOpen
      split
      · simp
      · split
        · simp
        · simp; omega
theorem Tag_Parse {w : World} {v : Value} {b : List UInt8} {K : Value → World → Prop} (h : Bytes w v b) (h63 : b.length ≤ 1000000)
    (k : ∀ w', Fr w w' → K (.tuple #[(tagParse b).2.val, i64 (tagParse b).1]) w') : pCall P 158 [v] K w := by
  refine c158 ?_
  unfold G158
  refine pAlloc_of TagM.zero.cells zero_182 rfl fun rb w1 hrb hrbl hf1 h1 => ?_
  refine Frame_Whole (kind := 84) (h.fr hf1) h63 fun v2 w2 hs2 hf2 hr2 => ?_
  have hlen := frameWhole_len b 84
  have h2 := hf2.blk h1 fun h => h
  have hf02 := hf1.trans hf2
  unfold tagParse at k
  simp only [extractV_tuple, List.getElem?_toArray, List.getElem?_cons_zero, List.getElem?_cons_succ, pVal_some, binV_neq, pIf_bool]
  by_cases g : (frameWhole b 84).1 = 0
  rotate_left
  · simp [g, buildV_app, fillL, fillA, splice]
    refine pStN TagM.zero.cells h2 lay_182 rfl rfl (by simp [TagM.zero, TagM.cells]) rfl fun w3 hc3 h3 => ?_
    have := k w3 (Ch.trans' hf02 (by omega) hc3)
    rw [if_pos g] at this
    exact pResN h3 lay_182 rfl this
  rw [if_neg (by simpa using g)] at k
  simp [g]
  refine Word_Read hs2 (by omega) fun pb w3 hpb hf3 h3 => ?_
  refine pAlloc_of TagM.zero.cells zero_182 rfl fun tb w4 htb htbl hf4 h4 => ?_
  have n1 : tb ≠ pb := fun e => by
    obtain ⟨_, q, _⟩ := h3
    have := q.lt
    omega
  have hlt : pb < tb := by
    obtain ⟨_, q, _⟩ := h3
    have := q.lt
    omega
  generalize hbody : (frameWhole b 84).2 = body at *
  have np : ∀ {wa wc : World} {l : List Value}, Ch (· = pb) wa wc → Blk wa tb 182 l → Blk wc tb 182 l := fun hc hb => hc.blk hb n1
  have nr : ∀ {wa wc : World} {r : RdM}, Ch (· = tb) wa wc → RdR wa pb r → RdR wc pb r := fun hc hr => hr.ch hc (fun e => n1 e.symm) fun c hc he => by omega
  have n0 : ∀ {wa wc : World}, Fr w wa → Ch (· = pb) wa wc → Fr w wc := fun hf hc => Ch.trans' hf (by have := hf02.size; omega) hc
  have n2 : ∀ {wa wc : World}, Fr w wa → Ch (· = tb) wa wc → Fr w wc := fun hf hc => Ch.trans' hf (by have := hf02.size; omega) hc
  have hw4 : Fr w w4 := (hf02.trans hf3).trans hf4
  have hrb4 : Blk w4 rb 182 TagM.zero.cells := hf4.blk (hf3.blk h2 fun h => h) fun h => h
  have hrbpb : rb < pb := by have := h2.lt; omega
  refine Reader_Number (n := 1) (h3.fr hf4) (by omega) fun w5 hc5 h5 => ?_
  refine Reader_Number (n := 4) h5 (by omega) fun w6 hc6 h6 => ?_
  simp
  refine pSt1 (np hc6 (np hc5 h4)) lay_3 rfl rfl (by simp [TagM.cells]) fun w7 hc7 h7 => ?_
  refine pSt1 h7 lay_3 rfl rfl (by simp [TagM.cells]) fun w8 hc8 h8 => ?_
  refine Reader_Number (n := 1) (nr hc8 (nr hc7 h6)) (by omega) fun w9 hc9 h9 => ?_
  refine Reader_Number (n := 4) h9 (by omega) fun w10 hc10 h10 => ?_
  refine pSt1 (np hc10 (np hc9 h8)) lay_3 rfl rfl (by simp [TagM.cells]) fun w11 hc11 h11 => ?_
  refine pSt1 h11 lay_3 rfl rfl (by simp [TagM.cells]) fun w12 hc12 h12 => ?_
  refine Reader_Number (n := 1) (nr hc12 (nr hc11 h10)) (by omega) fun w13 hc13 h13 => ?_
  refine Reader_Flag h13 fun w14 hc14 h14 => ?_
  refine pSt1 (np hc14 (np hc13 h12)) lay_3 rfl rfl (by simp [TagM.cells]) fun w15 hc15 h15 => ?_
  refine pSt1 h15 lay_4 rfl rfl (by simp [TagM.cells]) fun w16 hc16 h16 => ?_
  have hr16 := nr hc16 (nr hc15 h14)
  have hw16 : Fr w w16 := n2 (n2 (n0 (n0 (n2 (n2 (n0 (n0 (n2 (n2 (n0 (n0 hw4 hc5) hc6) hc7) hc8) hc9) hc10) hc11) hc12) hc13) hc14) hc15) hc16
  have ht16 : Blk w16 tb 182 (tagRead body).t.cells := h16
  have hrr : RdR w16 pb (tagRead body).r := hr16
  have hrb16 : Blk w16 rb 182 TagM.zero.cells := by
    have s1 : ∀ {wa wc : World} {x : Nat}, rb ≠ x → Ch (· = x) wa wc → Blk wa rb 182 TagM.zero.cells → Blk wc rb 182 TagM.zero.cells := fun hne hc hb => hc.blk hb hne
    have a : rb ≠ pb := by omega
    have c : rb ≠ tb := by omega
    exact s1 c hc16 (s1 c hc15 (s1 a hc14 (s1 a hc13 (s1 c hc12 (s1 c hc11 (s1 a hc10 (s1 a hc9 (s1 c hc8 (s1 c hc7 (s1 a hc6 (s1 a hc5 hrb4)))))))))))
  generalize htr : tagRead body = tr at *
  refine join1 (fun v w' => v = .bool (decide (tr.r.done.e ≠ 0 ∨ tr.t.right = false)) ∧ Fr w w' ∧ Blk w' tb 182 tr.t.cells ∧ Blk w' rb 182 TagM.zero.cells) ?_ ?_
  rotate_left
  · intro J hJ
    refine Reader_Done hrr fun w17 hc17 h17 => ?_
    have ht17 := np hc17 ht16
    have hrb17 : Blk w17 rb 182 TagM.zero.cells := hc17.blk hrb16 (by omega)
    have hw17 := n0 hw16 hc17
    simp
    by_cases gd : tr.r.done.e = 0
    · simp [gd]
      refine pLdN tr.t.cells ht17 lay_182 (by simp [TagM.cells]) (by rfl) ?_
      refine Tag_Right fun w18 hf18 => ?_
      simp
      exact hJ _ _ ⟨by cases hq : tr.t.right <;> simp [gd], hw17.trans hf18, hf18.blk ht17 fun h => h, hf18.blk hrb17 fun h => h⟩
    · simp [gd]
      exact hJ _ _ ⟨by simp [gd], hw17, ht17, hrb17⟩
  rintro _ w18 ⟨rfl, hw18, ht18, hrb18⟩
  rw [pIf_bool]
  by_cases gx : tr.r.done.e ≠ 0 ∨ tr.t.right = false
  · rw [decide_eq_true gx, if_pos rfl]
    rw [if_pos gx] at k
    simp [buildV_app, fillL, fillA, splice]
    refine pStN TagM.zero.cells hrb18 lay_182 rfl rfl (by simp [TagM.zero, TagM.cells]) rfl fun w19 hc19 h19 => ?_
    exact pResN h19 lay_182 rfl (k w19 (Ch.trans' hw18 (by omega) hc19))
  · rw [decide_eq_false gx, if_neg Bool.false_ne_true]
    rw [if_neg gx] at k
    refine pLdN tr.t.cells ht18 lay_182 (by simp [TagM.cells]) (by rfl) ?_
    refine pStN tr.t.cells hrb18 lay_182 rfl rfl (by simp [TagM.zero, TagM.cells]) rfl fun w19 hc19 h19 => ?_
    have h19' : Blk w19 rb 182 tr.t.cells := h19
    exact pResN h19' lay_182 rfl (k w19 (Ch.trans' hw18 (by omega) hc19))
end Go.Al

namespace Go.Al
open Go Go.Proofs
structure TenM where
  there : Bool
  epoch : Int
  size : Int
  spare : Int
  blocks : List Int
  deriving DecidableEq
def TenM.zero : TenM := ⟨false, 0, 0, 0, []⟩
structure LedM where
  gen : Int
  epochs : Int
  tens : List TenM
  deriving DecidableEq
def LedM.zero : LedM := ⟨0, 0, List.replicate 4 TenM.zero⟩
def cTen (x : TenM × Value) : List Value := [.bool x.1.there, i64 x.1.epoch, i64 x.1.size, i64 x.1.spare, x.2]
theorem cTen_len (x : TenM × Value) : (cTen x).length = 5 := rfl
def ledCells (gen epochs : Int) (xs : List (TenM × Value)) : List Value := [i64 gen, i64 epochs] ++ xs.flatMap cTen
/-- A ledger's slices in memory. -/
structure LedX (w : World) (xs : List (TenM × Value)) (l : LedM) : Prop where
  tens : xs.map (·.1) = l.tens
  len : xs.length = 4
  mem : ∀ x ∈ xs, Ints w x.2 x.1.blocks
  few : ∀ x ∈ xs, x.1.blocks.length ≤ 1000
theorem LedX.ch {B : Nat → Prop} {w w' : World} {xs : List (TenM × Value)} {l : LedM} (h : LedX w xs l) (hc : Ch B w w') (hb : ∀ x ∈ xs, ∀ c, live x.2 = some c → ¬ B c) : LedX w' xs l :=
  ⟨h.tens, h.len, fun x hx => (h.mem x hx).ch hc (hb x hx), h.few⟩
theorem LedX.fr {w w' : World} {xs : List (TenM × Value)} {l : LedM} (h : LedX w xs l) (hc : Fr w w') : LedX w' xs l := h.ch hc fun _ _ _ _ h => h
theorem ledCells_len {xs : List (TenM × Value)} (h : xs.length = 4) (g e : Int) : (ledCells g e xs).length = 22 := by
  unfold ledCells
  rw [List.length_append, length_flatMap cTen_len, h]; rfl
theorem ledCells_one {w : World} {xs : List (TenM × Value)} {l : LedM} (h : LedX w xs l) (g e : Int) : (ledCells g e xs).all (·.oneCell') = true := by
  unfold ledCells
  rw [List.all_append, Bool.and_eq_true]
  refine ⟨rfl, ?_⟩
  rw [List.all_eq_true]
  intro v hv
  obtain ⟨x, hx, hv⟩ := List.mem_flatMap.1 hv
  simp only [cTen, List.mem_cons, List.not_mem_nil, or_false] at hv
  rcases hv with rfl | rfl | rfl | rfl | rfl
  · rfl
  · rfl
  · rfl
  · rfl
  · exact (h.mem x hx).one
theorem led_get {xs : List (TenM × Value)} {i : Nat} {x : TenM × Value} (hi : xs[i]? = some x) (g e : Int) {k : Nat} (hk : k < 5) : (ledCells g e xs)[2 + (i * 5 + k)]? = (cTen x)[k]? := by
  have := flat_get cTen_len hi [i64 g, i64 e] [] hk
  simpa [ledCells] using this
theorem led_set {xs : List (TenM × Value)} {i : Nat} {x : TenM × Value} (hi : xs[i]? = some x) (g e : Int) {k : Nat} (hk : k < 5) {v : Value} (y : TenM × Value) (hy : (cTen x).set k v = cTen y) :
    (ledCells g e xs).set (2 + (i * 5 + k)) v = ledCells g e (xs.set i y) := by
  have := flat_set1 cTen_len hi [i64 g, i64 e] [] hk y hy
  simpa [ledCells] using this
theorem led_splice {xs : List (TenM × Value)} {i : Nat} (hi : i < xs.length) (g e : Int) (y : TenM × Value) : splice (ledCells g e xs) (2 + i * 5) (cTen y) = ledCells g e (xs.set i y) := by
  have := flat_set cTen_len hi y [i64 g, i64 e] []
  simpa [ledCells] using this
def ledVal (l : LedM) (xs : List (TenM × Value)) : Value := .agg (ledCells l.gen l.epochs xs).toArray
def withinL (n a b : Int) : Bool := decide (a ≤ n ∧ n ≤ b)
theorem Ledger_within {w : World} {n a b : Int} {K : Value → World → Prop} (k : K (.bool (withinL n a b)) w) : pCall P 141 [i64 n, i64 a, i64 b] K w := by
  refine c141 ?_
  unfold G141
  unfold withinL at k
  by_cases g : a ≤ n
  · simp [g] at k ⊢; exact k
  · simp [g] at k ⊢; exact k
def LedM.ten (l : LedM) (t : Int) : TenM := (l.tens[t.toNat]?).getD TenM.zero
def LedM.there (l : LedM) (t : Int) : Int := if t < 0 ∨ 3 < t then 5 else if (l.ten t).there then 0 else 6
theorem LedX.at {w : World} {xs : List (TenM × Value)} {l : LedM} (h : LedX w xs l) {i : Nat} (hi : i < 4) : ∃ x, xs[i]? = some x ∧ x ∈ xs ∧ l.tens[i]? = some x.1 ∧ l.ten i = x.1 := by
  have hl : i < xs.length := by rw [h.len]; exact hi
  have hx : xs[i]? = some xs[i] := List.getElem?_eq_getElem hl
  have ht : l.tens[i]? = some xs[i].1 := by rw [← h.tens, List.getElem?_map, hx]; rfl
  exact ⟨xs[i], hx, List.getElem_mem hl, ht, by unfold LedM.ten; rw [Int.toNat_natCast, ht]; rfl⟩
theorem Ledger_there {w : World} {l : LedM} {xs : List (TenM × Value)} {t : Int} {K : Value → World → Prop} (h : LedX w xs l) (k : ∀ w', Fr w w' → K (i64 (l.there t)) w') : pCall P 122 [ledVal l xs, i64 t] K w := by
  refine c122 ?_
  unfold G122
  refine pNew_of (ledCells l.gen l.epochs xs) (by rfl) fun b w1 hb hbl hf1 h1 => ?_
  have k' := k w1 hf1
  unfold LedM.there at k'
  refine Ledger_within ?_
  by_cases g : 0 ≤ t ∧ t ≤ 3
  · have e : withinL t 0 3 = true := by unfold withinL; simpa using g
    simp [e]
    rw [if_neg (by omega)] at k'
    obtain ⟨i, rfl⟩ : ∃ i : Nat, t = i := ⟨t.toNat, by omega⟩
    rw [if_pos (by omega)]
    simp
    obtain ⟨x, hx, _, _, hten⟩ := h.at (i := i) (by omega)
    refine pLd1 h1 lay_4 (v := .bool x.1.there) (by have := led_get hx l.gen l.epochs (k := 0) (by omega); simpa [cTen] using this) ?_
    rw [hten] at k'
    cases hth : x.1.there
    · simp [hth] at k' ⊢; exact k'
    · simp [hth] at k' ⊢; exact k'
  · have e : withinL t 0 3 = false := by unfold withinL; simpa using g
    simp [e]
    rw [if_pos (by omega)] at k'
    exact k'
/-- The slices of a ledger are of different blocks. -/
def Apart (xs : List (TenM × Value)) : Prop := ∀ (i j : Nat) (x y : TenM × Value) (c : Nat), xs[i]? = some x → xs[j]? = some y → live x.2 = some c → live y.2 = some c → i = j
theorem Ledger_Twin {w : World} {l : LedM} {xs : List (TenM × Value)} {K : Value → World → Prop} (h : LedX w xs l)
    (k : ∀ w' xs', Fr w w' → LedX w' xs' l → (∀ x ∈ xs', Fresh w x.2) → Apart xs' → K (ledVal l xs') w') : pCall P 88 [ledVal l xs] K w := by
  refine c88 ?_
  unfold G88
  refine pNew_of (ledCells l.gen l.epochs xs) (by rfl) fun b w1 hb hbl hf1 h1 => ?_
  refine pAlloc_of (ledCells 0 0 (List.replicate 4 (TenM.zero, .slice none 0 0))) zero_56 (by rfl) fun rb w2 hrb hrbl hf2 h2 => ?_
  have hf02 := hf1.trans hf2
  have h1' := hf2.blk h1 fun h => h
  refine loop1_up 4 (fun i w' => ∃ ys : List (TenM × Value), Fr w w' ∧ w2.heap.size ≤ w'.heap.size ∧ Blk w' b 56 (ledCells l.gen l.epochs ys) ∧ Blk w' rb 56 (ledCells 0 0 (List.replicate 4 (TenM.zero, .slice none 0 0))) ∧ LedX w' ys l ∧
    (∀ j, i ≤ j → ys[j]? = xs[j]?) ∧ (∀ (j : Nat) (y : TenM × Value), j < i → ys[j]? = some y → ∀ c, live y.2 = some c → w2.heap.size ≤ c ∧ c < w'.heap.size) ∧
    (∀ (i' j : Nat) (x y : TenM × Value) (c : Nat), i' < i → j < i → ys[i']? = some x → ys[j]? = some y → live x.2 = some c → live y.2 = some c → i' = j)) ?_ ?_
  · exact ⟨xs, hf02, Nat.le_refl _, h1', h2, h.fr hf02, fun _ _ => rfl, fun j y hj => by omega, fun i' j x y c hi' => by omega⟩
  rintro i w3 ag hag hi ⟨ys, hf3, hs3, hb3, hrb3, hy, hold, hnew, hap⟩
  by_cases hlt : i < 4
  · have hlt' : (i : Int) < 4 := by omega
    simp [hlt']
    obtain ⟨x, hx, hxm, _, _⟩ := hy.at hlt
    refine pLd1 hb3 lay_24 (v := x.2) (by have := led_get hx l.gen l.epochs (k := 4) (by omega); simpa [cTen, Nat.add_assoc] using this) ?_
    refine Clone_int (hy.mem x hxm) (by have := hy.few x hxm; omega) fun v' w4 hs4 hf4 hr4 => ?_
    have hb4 := hf4.blk hb3 fun h => h
    refine pSt1 hb4 lay_24 hs4.cell1 hs4.one (by rw [ledCells_len hy.len]; omega) fun w5 hc5 hb5 => ?_
    have hset := led_set hx l.gen l.epochs (k := 4) (v := v') (by omega) (x.1, v') rfl
    simp only [← Nat.add_assoc] at hset
    rw [hset] at hb5
    rw [wrap_succ (by omega)]
    have hbw : w.heap.size ≤ b := by omega
    have hb2 : b < w2.heap.size := h1'.lt
    have nb : ∀ z ∈ ys, ∀ c, live z.2 = some c → ¬ c = b := fun z hz c hc he => by
      obtain ⟨j, hj⟩ := List.getElem?_of_mem hz
      by_cases hji : j < i
      · have := (hnew j z hji hj c hc).1; omega
      · rw [hold j (by omega)] at hj
        have := (h.mem z (List.mem_of_getElem? hj)).live_lt hc
        omega
    have hvb : ∀ c, live v' = some c → w3.heap.size ≤ c ∧ c < w4.heap.size := fun c hc => ⟨hr4 c hc, hs4.live_lt hc⟩
    have hs34 := hf4.size
    have hs45 := hc5.size
    have hil : i < ys.length := by rw [hy.len]; exact hlt
    have hyi : l.tens[i]? = some x.1 := by rw [← hy.tens, List.getElem?_map, hx]; rfl
    refine hag (i + 1) w5 (by omega) (by omega) ⟨ys.set i (x.1, v'), Ch.trans' (hf3.trans hf4) hbw hc5, by omega, hb5, ?_, ⟨?_, by simpa using hy.len, ?_, ?_⟩, ?_, ?_, ?_⟩
    · exact hc5.blk (hf4.blk hrb3 fun h => h) (by have := h1.lt; omega)
    · rw [List.map_set, hy.tens, set_get hyi]
    · intro z hz
      rcases List.mem_or_eq_of_mem_set hz with hz | rfl
      · exact ((hy.mem z hz).fr hf4).ch hc5 (nb z hz)
      · exact hs4.ch hc5 fun c hc he => by have := (hvb c hc).1; omega
    · intro z hz
      rcases List.mem_or_eq_of_mem_set hz with hz | rfl
      · exact hy.few z hz
      · exact hy.few x hxm
    · intro j hj
      rw [List.getElem?_set_ne (by omega)]
      exact hold j (by omega)
    · intro j y hj hyj c hc
      by_cases hji : j = i
      · subst hji
        rw [List.getElem?_set_self hil] at hyj
        cases hyj
        have := hvb c hc; omega
      · rw [List.getElem?_set_ne (by omega)] at hyj
        have := hnew j y (by omega) hyj c hc; omega
    · intro i' j x' y c hi' hj hx' hyj hcx hcy
      by_cases h1i : i' = i
      · by_cases h2i : j = i
        · omega
        · subst h1i
          rw [List.getElem?_set_self hil] at hx'
          cases hx'
          rw [List.getElem?_set_ne (by omega)] at hyj
          have := hnew j y (by omega) hyj c hcy
          have := hvb c hcx; omega
      · by_cases h2i : j = i
        · subst h2i
          rw [List.getElem?_set_self hil] at hyj
          cases hyj
          rw [List.getElem?_set_ne (by omega)] at hx'
          have := hnew i' x' (by omega) hx' c hcx
          have := hvb c hcy; omega
        · rw [List.getElem?_set_ne (by omega)] at hx' hyj
          exact hap i' j x' y c (by omega) (by omega) hx' hyj hcx hcy
  · have hlt' : ¬ (i : Int) < 4 := by omega
    simp [hlt']
    obtain rfl : i = 4 := by omega
    refine pLdN (ledCells l.gen l.epochs ys) hb3 lay_56 (by rw [ledCells_len hy.len]; omega) (by rw [List.drop_zero, List.take_of_length_le (by rw [ledCells_len hy.len]; omega)]) ?_
    refine pStN (ledCells l.gen l.epochs ys) hrb3 lay_56 rfl (ledCells_len hy.len _ _) (by rw [ledCells_len rfl]; omega) (ledCells_one hy _ _) fun w4 hc4 h4 => ?_
    have e : splice (ledCells 0 0 (List.replicate 4 (TenM.zero, Value.slice none 0 0))) 0 (ledCells l.gen l.epochs ys) = ledCells l.gen l.epochs ys := by
      unfold splice
      rw [List.take_zero, List.nil_append, List.drop_of_length_le (by rw [ledCells_len rfl, ledCells_len hy.len]; omega), List.append_nil]
    rw [e] at h4
    have hrbs : w1.heap.size = rb := hrb.symm
    have hrb2 : rb < w2.heap.size := hrbl
    have hs1 := hf1.size
    have nrb : ∀ z ∈ ys, ∀ c, live z.2 = some c → ¬ c = rb := fun z hz c hc he => by
      obtain ⟨j, hj⟩ := List.getElem?_of_mem hz
      have hj4 : j < 4 := by have := (List.getElem?_eq_some_iff.1 hj).1; rw [hy.len] at this; exact this
      have := (hnew j z hj4 hj c hc).1; omega
    refine pResN h4 lay_56 (ledCells_len hy.len _ _) (k w4 ys (Ch.trans' hf3 (by omega) hc4) (hy.ch hc4 nrb) ?_ ?_)
    · intro z hz c hc
      obtain ⟨j, hj⟩ := List.getElem?_of_mem hz
      have hj4 : j < 4 := by have := (List.getElem?_eq_some_iff.1 hj).1; rw [hy.len] at this; exact this
      have := (hnew j z hj4 hj c hc).1
      have := hf2.size
      omega
    · intro i' j x y c hx' hyj hcx hcy
      have hi4 : i' < 4 := by have := (List.getElem?_eq_some_iff.1 hx').1; rw [hy.len] at this; exact this
      have hj4 : j < 4 := by have := (List.getElem?_eq_some_iff.1 hyj).1; rw [hy.len] at this; exact this
      exact hap i' j x y c hi4 hj4 hx' hyj hcx hcy
end Go.Al

namespace Go.Al
open Go Go.Proofs
def tenVal (x : TenM × Value) : Value := .agg (cTen x).toArray
def TenM.isNone (t : TenM) : Bool := decide (t.epoch = 0 ∧ t.size = 0 ∧ t.spare = 0 ∧ t.blocks = [])
theorem len0 {xs : List Int} : ((xs.length : Int) = 0) ↔ xs = [] := by
  cases xs with
  | nil => simp
  | cons a l => simp; omega
theorem Ledger_none {w : World} {x : TenM × Value} {K : Value → World → Prop} (h : Ints w x.2 x.1.blocks) (k : ∀ w', Fr w w' → K (.bool x.1.isNone) w') : pCall P 228 [tenVal x] K w := by
  refine c228 ?_
  unfold G228
  refine pNew_of (cTen x) rfl fun b w1 hb hbl hf h1 => ?_
  have k' := k w1 hf
  unfold TenM.isNone at k'
  simp
  refine pLd1 h1 lay_3 rfl ?_
  simp
  by_cases g1 : x.1.epoch = 0
  rotate_left
  · simp [g1] at k' ⊢; exact k'
  simp [g1] at k' ⊢
  refine pLd1 h1 lay_3 rfl ?_
  simp
  by_cases g2 : x.1.size = 0
  rotate_left
  · simp [g2] at k' ⊢; exact k'
  simp [g2] at k' ⊢
  refine pLd1 h1 lay_3 rfl ?_
  simp
  by_cases g3 : x.1.spare = 0
  rotate_left
  · simp [g3] at k' ⊢; exact k'
  simp [g3] at k' ⊢
  refine pLd1 h1 lay_24 rfl ?_
  rw [(h.fr hf).len (by simp)]
  simp [len0]
  exact k'
/-- Blocks that are told are some that may be, each once. -/
def seenAll (n : Int) : List Int → List Int → Option (List Int)
  | [], seen => some seen
  | b :: bs, seen => if ¬ (2 ≤ b ∧ b ≤ n - 1) ∨ b ∈ seen then none else seenAll n bs (b :: seen)
def checkTens (eps n pages : Int) : List TenM → List Int → List Int → Int
  | [], _, _ => 0
  | t :: ts, seen, epochs =>
    if t.there = false ∧ t.isNone = true then checkTens eps n pages ts seen epochs else
    if t.there = false ∨ ¬ (1 ≤ t.epoch ∧ t.epoch ≤ eps) ∨ t.epoch ∈ epochs ∨ ruleTotal t.size t.spare pages = 0 ∨ ¬ (ruleTotal t.size t.spare pages ≤ t.blocks.length ∧ (t.blocks.length : Int) ≤ n - 2) then 2 else
    match seenAll n t.blocks seen with
    | none => 2
    | some seen' => checkTens eps n pages ts seen' (t.epoch :: epochs)
def LedM.check (l : LedM) (blocks pages : Int) : Int :=
  if ¬ (0 ≤ l.gen ∧ l.gen ≤ 2147483647) ∨ ¬ (0 ≤ l.epochs ∧ l.epochs ≤ 2147483647) then 2 else checkTens l.epochs (max blocks 0) pages l.tens [] []
theorem mapP_seen : mapP P 249 = some (3, 4) := by kernel_rfl
theorem zero_bool' : zeroP P 4 = some (.bool false) := by kernel_rfl
/-- A set in memory. -/
def SetR (w : World) (b : Nat) (s : List Int) : Prop := ∃ m, MapR w b m ∧ ∀ k, mget m k = if k ∈ s then some (.bool true) else none
theorem SetR.ch {B : Nat → Prop} {w w' : World} {b : Nat} {s : List Int} (h : SetR w b s) (hc : Ch B w w') (hb : ¬ B b) : SetR w' b s := by
  obtain ⟨m, h1, h2⟩ := h; exact ⟨m, h1.ch hc hb, h2⟩
theorem SetR.fr {w w' : World} {b : Nat} {s : List Int} (h : SetR w b s) (hc : Fr w w') : SetR w' b s := h.ch hc fun h => h
theorem pAsk {w : World} {b : Nat} {s : List Int} {x : Int} {K : Value → World → Prop} (h : SetR w b s) (k : K (.bool (decide (x ∈ s))) w) : pRun P (Instr.lookup 249 (.map (some b)) (i64 x) false) K w := by
  obtain ⟨m, h1, h2⟩ := h
  refine pLook mapP_seen zero_bool' h1 ?_
  rw [h2]
  by_cases hx : x ∈ s
  · simp [hx] at k ⊢; exact k
  · simp [hx] at k ⊢; exact k
theorem pAdd {w : World} {b : Nat} {s : List Int} {x : Int} {K : World → Prop} (h : SetR w b s) (k : ∀ w', Ch (· = b) w w' → SetR w' b (x :: s) → K w') : pDo P (Instr.mapUpdate 249 (.map (some b)) (i64 x) (.bool true)) K w := by
  obtain ⟨m, h1, h2⟩ := h
  refine pPutM mapP_seen h1 fun w' hc h3 => k w' hc ⟨_, h3, fun j => ?_⟩
  rw [mget_mput, h2]
  by_cases hj : j = x
  · simp [hj]
  · simp [hj]
theorem ten_at {xs : List (TenM × Value)} {i : Nat} {x : TenM × Value} (hi : xs[i]? = some x) : partV true (i * 5) 5 (xs.flatMap cTen).toArray.toList = some (tenVal x) := by
  unfold partV tenVal
  simp only
  congr 2
  rw [drop_flatMap cTen_len]
  obtain ⟨hl, he⟩ := List.getElem?_eq_some_iff.1 hi
  rw [List.drop_eq_getElem_cons hl, List.flatMap_cons, he, ← cTen_len x, List.take_left]
theorem tens_take {xs : List (TenM × Value)} (h : xs.length = 4) (g e : Int) : ((ledCells g e xs).drop 2).take 20 = xs.flatMap cTen := by
  unfold ledCells
  rw [List.drop_append_of_le_length (by simp)]
  simp only [List.drop_succ_cons, List.drop_zero, List.drop_nil, List.nil_append]
  rw [List.take_of_length_le (by rw [length_flatMap cTen_len, h]; omega)]
theorem checkTens_drop {l : LedM} {i : Nat} {x : TenM} (h : l.tens[i]? = some x) : l.tens.drop i = x :: l.tens.drop (i + 1) := by
  obtain ⟨hl, he⟩ := List.getElem?_eq_some_iff.1 h
  rw [List.drop_eq_getElem_cons hl, he]
theorem Ledger_Check {w : World} {l : LedM} {xs : List (TenM × Value)} {blocks pages : Int} {K : Value → World → Prop} (h : LedX w xs l) (hb0 : -1000000 ≤ blocks) (hb1 : blocks ≤ 1000000)
    (k : ∀ w', Fr w w' → K (i64 (l.check blocks pages)) w') : pCall P 197 [ledVal l xs, i64 blocks, i64 pages] K w := by
  refine c197 ?_
  unfold G197
  refine pNew_of (ledCells l.gen l.epochs xs) (by rfl) fun lb w1 hlb hlbl hf1 h1 => ?_
  refine join0 (fun w' => w' = w1 ∧ (0 ≤ l.gen ∧ l.gen ≤ 2147483647) ∧ (0 ≤ l.epochs ∧ l.epochs ≤ 2147483647)) ?_ ?_
  rotate_left
  · intro J hJ
    have k2 : (¬ (0 ≤ l.gen ∧ l.gen ≤ 2147483647) ∨ ¬ (0 ≤ l.epochs ∧ l.epochs ≤ 2147483647)) → K (i64 2) w1 := fun g => by
      have := k w1 hf1
      unfold LedM.check at this
      rw [if_pos g] at this; exact this
    simp
    refine pLd1 h1 lay_3 (v := i64 l.gen) rfl ?_
    refine Ledger_within ?_
    by_cases g1 : 0 ≤ l.gen ∧ l.gen ≤ 2147483647
    rotate_left
    · have e : withinL l.gen 0 2147483647 = false := by unfold withinL; simpa using g1
      simp [e]
      exact k2 (.inl g1)
    have e : withinL l.gen 0 2147483647 = true := by unfold withinL; simpa using g1
    simp [e]
    refine pLd1 h1 lay_3 (v := i64 l.epochs) rfl ?_
    refine Ledger_within ?_
    by_cases g2 : 0 ≤ l.epochs ∧ l.epochs ≤ 2147483647
    rotate_left
    · have e : withinL l.epochs 0 2147483647 = false := by unfold withinL; simpa using g2
      simp [e]
      exact k2 (.inr g2)
    have e : withinL l.epochs 0 2147483647 = true := by unfold withinL; simpa using g2
    simp [e]
    exact hJ _ ⟨rfl, g1, g2⟩
  rintro _ ⟨rfl, g1, g2⟩
  have k1 : ∀ w', Fr w w' → K (i64 (checkTens l.epochs (max blocks 0) pages l.tens [] [])) w' := fun w' hf => by
    have := k w' hf
    unfold LedM.check at this
    rw [if_neg (by rintro (g | g) <;> contradiction)] at this
    exact this
  clear k
  obtain ⟨n, hn⟩ : ∃ n, n = max blocks 0 := ⟨_, rfl⟩
  have emax : (if 0 > blocks then 0 else blocks) = n := by rw [hn, Int.max_def]; split <;> split <;> omega
  rw [← hn] at k1
  simp only [max2_int, emax, pVal_some]
  refine pMakeM fun sb w2 hsb hsbl hf2 hs2 => ?_
  refine pMakeM fun eb w3 heb hebl hf3 he3 => ?_
  simp
  have h3 := hf3.blk (hf2.blk h1 fun h => h) fun h => h
  refine pLdN (xs.flatMap cTen) h3 lay_54 (by rw [ledCells_len h.len]; omega) (tens_take h.len _ _) ?_
  have hf03 : Fr w w3 := (hf1.trans hf2).trans hf3
  have hne : sb ≠ eb := by omega
  refine loop1_up 4 (fun i w' => ∃ seen epochs, Fr w w' ∧ Blk w' lb 56 (ledCells l.gen l.epochs xs) ∧ SetR w' sb seen ∧ SetR w' eb epochs ∧ checkTens l.epochs n pages l.tens [] [] = checkTens l.epochs n pages (l.tens.drop i) seen epochs) ?_ ?_
  · exact ⟨[], [], hf03, h3, ⟨[], hs2.fr hf3, fun k => rfl⟩, ⟨[], he3, fun k => rfl⟩, rfl⟩
  rintro i w4 ag hag hi ⟨seen, epochs, hf4, hl4, hs4, he4, heq⟩
  rw [heq] at k1
  by_cases hlt : i < 4
  rotate_left
  · have hlt' : ¬ (i : Int) < 4 := by omega
    simp [hlt']
    obtain rfl : i = 4 := by omega
    have hd : l.tens.drop 4 = [] := List.drop_of_length_le (by rw [← h.tens, List.length_map, h.len]; omega)
    rw [hd] at k1
    exact k1 w4 hf4
  have hlt' : (i : Int) < 4 := by omega
  simp [hlt']
  obtain ⟨x, hx, hxm, htx, _⟩ := h.at hlt
  rw [checkTens_drop htx] at k1 heq
  refine pIndexA (tenVal x) und_54 lay_53 (by omega) (by omega) (by simpa using ten_at hx) ?_
  refine pAlloc_of (cTen (TenM.zero, .slice none 0 0)) zero_53 (by rfl) fun tb w5 htb htbl hf5 h5 => ?_
  have hm5 : ∀ w', Fr w w' → Ints w' x.2 x.1.blocks := fun w' hf => (h.mem x hxm).fr hf
  refine pStN (cTen x) h5 lay_53 (by simp [tenVal]) (cTen_len x) (by rw [cTen_len]; omega) (by simp [cTen, (h.mem x hxm).one]; exact ⟨rfl, rfl, rfl, rfl⟩) fun w6 hc6 h6 => ?_
  have e6 : splice (cTen (TenM.zero, Value.slice none 0 0)) 0 (cTen x) = cTen x := rfl
  rw [e6] at h6
  have hsz4 := hf4.size
  have hf6 : Fr w w6 := Ch.trans' (hf4.trans hf5) (by omega) hc6
  have hl6 : Blk w6 lb 56 (ledCells l.gen l.epochs xs) := hc6.blk (hf5.blk hl4 fun h => h) (by have := hl4.lt; omega)
  have hs6 : SetR w6 sb seen := (hs4.fr hf5).ch hc6 (by obtain ⟨m, hm, _⟩ := hs4; have := hm.lt; omega)
  have he6 : SetR w6 eb epochs := (he4.fr hf5).ch hc6 (by obtain ⟨m, hm, _⟩ := he4; have := hm.lt; omega)
  have hsl : sb < tb := by obtain ⟨m, hm, _⟩ := hs4; have := hm.lt; omega
  have hel : eb < tb := by obtain ⟨m, hm, _⟩ := he4; have := hm.lt; omega
  clear hs4 he4 hl4 hf5 h5 hc6
  have hsz0 : w.heap.size ≤ sb := by have := hf1.size; omega
  have hsz1 : w.heap.size ≤ eb := by have := hf1.size; have := hf2.size; omega
  have hsz2 : w.heap.size ≤ lb := by omega
  have hsz3 : w.heap.size ≤ tb := by omega
  have hwr : IntKind.i64.wrap ((i : Int) + 1) = ((i + 1 : Nat) : Int) := wrap_succ (by omega)
  refine join0 (fun w' => Fr w w' ∧ Blk w' lb 56 (ledCells l.gen l.epochs xs) ∧ SetR w' sb seen ∧ SetR w' eb epochs ∧ Blk w' tb 53 (cTen x) ∧ ¬ (x.1.there = false ∧ x.1.isNone = true)) ?_ ?_
  rotate_left
  · intro J hJ
    simp
    refine pLd1 h6 lay_4 (v := .bool x.1.there) rfl ?_
    simp
    cases hth : x.1.there
    · simp
      refine pLdN (cTen x) h6 lay_53 (by rw [cTen_len]; omega) rfl ?_
      refine Ledger_none (x := x) (hm5 w6 hf6) fun w7 hf7 => ?_
      simp
      cases hno : x.1.isNone
      · simp
        exact hJ w7 ⟨hf6.trans hf7, hf7.blk hl6 fun h => h, hs6.fr hf7, he6.fr hf7, hf7.blk h6 fun h => h, by simp [hno]⟩
      · simp
        rw [hwr]
        refine hag (i + 1) w7 (by omega) (by omega) ⟨seen, epochs, hf6.trans hf7, hf7.blk hl6 fun h => h, hs6.fr hf7, he6.fr hf7, ?_⟩
        rw [heq, checkTens, if_pos ⟨hth, hno⟩]
    · simp
      exact hJ w6 ⟨hf6, hl6, hs6, he6, h6, by simp [hth]⟩
  rintro w7 ⟨hf7, hl7, hs7, he7, h7, gn⟩
  rw [checkTens, if_neg gn] at k1 heq
  clear hl6 hs6 he6 h6 hf6
  simp
  refine pLd1 h7 lay_3 (v := i64 x.1.size) rfl ?_
  refine pLd1 h7 lay_3 (v := i64 x.1.spare) rfl ?_
  refine Rule_Total ?_
  obtain ⟨need, hneed⟩ : ∃ need, need = ruleTotal x.1.size x.1.spare pages := ⟨_, rfl⟩
  rw [← hneed] at k1 heq ⊢
  have hlen : x.1.blocks.length ≤ 1000 := h.few x hxm
  refine join0 (fun w' => w' = w7 ∧ ¬ (x.1.there = false ∨ ¬ (1 ≤ x.1.epoch ∧ x.1.epoch ≤ l.epochs) ∨ x.1.epoch ∈ epochs ∨ need = 0 ∨ ¬ (need ≤ x.1.blocks.length ∧ (x.1.blocks.length : Int) ≤ n - 2))) ?_ ?_
  rotate_left
  · intro J hJ
    have kbad : (x.1.there = false ∨ ¬ (1 ≤ x.1.epoch ∧ x.1.epoch ≤ l.epochs) ∨ x.1.epoch ∈ epochs ∨ need = 0 ∨ ¬ (need ≤ x.1.blocks.length ∧ (x.1.blocks.length : Int) ≤ n - 2)) → K (i64 2) w7 := fun g => by
      have := k1 w7 hf7
      rw [if_pos g] at this; exact this
    refine pLd1 h7 lay_4 (v := .bool x.1.there) rfl ?_
    simp
    cases hth : x.1.there
    · simp
      exact kbad (.inl hth)
    simp
    refine pLd1 h7 lay_3 (v := i64 x.1.epoch) rfl ?_
    refine pLd1 hl7 lay_3 (v := i64 l.epochs) rfl ?_
    refine Ledger_within ?_
    by_cases ge : 1 ≤ x.1.epoch ∧ x.1.epoch ≤ l.epochs
    rotate_left
    · have e : withinL x.1.epoch 1 l.epochs = false := by unfold withinL; simpa using ge
      simp [e]
      exact kbad (.inr (.inl ge))
    have e : withinL x.1.epoch 1 l.epochs = true := by unfold withinL; simpa using ge
    simp [e]
    refine pLd1 h7 lay_3 (v := i64 x.1.epoch) rfl ?_
    refine pAsk he7 ?_
    by_cases gs : x.1.epoch ∈ epochs
    · simp [gs]
      exact kbad (.inr (.inr (.inl gs)))
    simp [gs]
    by_cases gz : need = 0
    · simp [gz]
      exact kbad (.inr (.inr (.inr (.inl gz))))
    simp [gz]
    refine pLd1 h7 lay_24 (v := x.2) rfl ?_
    rw [(hm5 w7 hf7).len (by simp)]
    simp
    have hw2 : IntKind.i64.wrap (n - 2) = n - 2 := wrap_in (by omega) (by omega)
    rw [hw2]
    refine Ledger_within ?_
    by_cases gw : need ≤ x.1.blocks.length ∧ (x.1.blocks.length : Int) ≤ n - 2
    rotate_left
    · have e : withinL x.1.blocks.length need (n - 2) = false := by unfold withinL; simpa using gw
      simp [e]
      exact kbad (.inr (.inr (.inr (.inr gw))))
    have e : withinL x.1.blocks.length need (n - 2) = true := by unfold withinL; simpa using gw
    simp [e]
    refine hJ _ ⟨rfl, ?_⟩
    rintro (g | g | g | g | g)
    · rw [hth] at g; cases g
    · exact g ge
    · exact gs g
    · exact gz g
    · exact g gw
  rintro _ ⟨rfl, gok⟩
  rw [if_neg gok] at k1 heq
  refine pLd1 h7 lay_3 (v := i64 x.1.epoch) rfl ?_
  refine pAdd he7 fun w8 hc8 he8 => ?_
  have hf8 : Fr w w8 := Ch.trans' hf7 hsz1 hc8
  have h8 : Blk w8 tb 53 (cTen x) := hc8.blk h7 (by omega)
  have hl8 : Blk w8 lb 56 (ledCells l.gen l.epochs xs) := hc8.blk hl7 (by have := h1.lt; omega)
  have hs8 : SetR w8 sb seen := hs7.ch hc8 (by omega)
  refine pLd1 h8 lay_24 (v := x.2) rfl ?_
  rw [(hm5 w8 hf8).len (by simp)]
  simp
  have hw1 : IntKind.i64.wrap (n - 1) = n - 1 := wrap_in (by omega) (by omega)
  refine loop1_up x.1.blocks.length (fun j w' => ∃ sn, Fr w w' ∧ Blk w' lb 56 (ledCells l.gen l.epochs xs) ∧ SetR w' sb sn ∧ SetR w' eb (x.1.epoch :: epochs) ∧ seenAll n x.1.blocks seen = seenAll n (x.1.blocks.drop j) sn) ?_ ?_
  · exact ⟨seen, hf8, hl8, hs8, he8, rfl⟩
  rintro j w9 ag2 hag2 hj ⟨sn, hf9, hl9, hs9, he9, heq9⟩
  by_cases hjl : j < x.1.blocks.length
  rotate_left
  · have hjl' : ¬ (j : Int) < (x.1.blocks.length : Int) := by omega
    simp [hjl']
    rw [hwr]
    refine hag (i + 1) w9 (by omega) (by omega) ⟨sn, x.1.epoch :: epochs, hf9, hl9, hs9, he9, ?_⟩
    rw [heq, heq9, List.drop_of_length_le (by omega)]
    rfl
  have hjl' : (j : Int) < (x.1.blocks.length : Int) := by omega
  simp only [binV_lss, pVal_some, hjl', decide_true, pIf_bool, if_true]
  refine Ints.get (hm5 w9 hf9) hjl ?_
  simp only [binV_sub, pVal_some, hw1]
  refine Ledger_within ?_
  have hdrop : x.1.blocks.drop j = x.1.blocks[j] :: x.1.blocks.drop (j + 1) := List.drop_eq_getElem_cons hjl
  rw [heq9, hdrop, seenAll] at k1
  rw [hdrop, seenAll] at heq9
  have kbad : (¬ (2 ≤ x.1.blocks[j] ∧ x.1.blocks[j] ≤ n - 1) ∨ x.1.blocks[j] ∈ sn) → K (i64 2) w9 := fun g => by
    have := k1 w9 hf9
    rw [if_pos g] at this; exact this
  by_cases gw : 2 ≤ x.1.blocks[j] ∧ x.1.blocks[j] ≤ n - 1
  rotate_left
  · have e : withinL x.1.blocks[j] 2 (n - 1) = false := by unfold withinL; simpa using gw
    simp [e]
    exact kbad (.inl gw)
  have e : withinL x.1.blocks[j] 2 (n - 1) = true := by unfold withinL; simpa using gw
  simp [e]
  refine pAsk hs9 ?_
  by_cases gs : x.1.blocks[j] ∈ sn
  · simp [gs]
    exact kbad (.inr gs)
  simp [gs]
  refine pAdd hs9 fun w10 hc10 hs10 => ?_
  rw [wrap_succ (by omega)]
  rw [if_neg (by rintro (g | g); exact g gw; exact gs g)] at heq9
  exact hag2 (j + 1) w10 (by omega) (by omega) ⟨_, Ch.trans' hf9 hsz0 hc10, hc10.blk hl9 (by have := h1.lt; omega), hs10, he9.ch hc10 (fun e => hne e.symm), heq9⟩
end Go.Al

namespace Go.Al
open Go Go.Proofs
/-- An array is sliced whole. -/
theorem pSliceAll {T e : TypeId} {w : World} {b o len n : Nat} {g : Bool} {K : Value → World → Prop} (hu : P.underlying T = some (.array len e)) (hl : lay P e = some (g, n)) (k : K (.slice (some ⟨b, o, none⟩) len len) w) :
    pRun P (Instr.sliceAt T (ptr b o) none none none) K w := by
  obtain ⟨d, inf, h1, h2, h3, _⟩ := lay_out hl
  unfold pRun okThen
  have : (Instr.sliceAt T (ptr b o) none none none).run P w = .ok (.slice (some ⟨b, o, none⟩) len len) w := by
    unfold Instr.sliceAt
    simp [run_underlying hu, Instr.sliceBounds, Instr.sureAddr, asAddr, sizeOf, typeInfo, h2, Result.andThen, Addr.add]
  rw [this]
  exact k
theorem tens_sl {w : World} {b : Nat} {T : TypeId} {xs : List (TenM × Value)} {g e : Int} (h : Blk w b T (ledCells g e xs)) (hl : xs.length = 4) : Sl w 5 cTen (.slice (some ⟨b, 2, none⟩) 4 4) xs := by
  refine ⟨cTen_len, by rw [length_flatMap cTen_len], some ⟨b, 2, none⟩, 4, by rw [hl], by omega, by simp [maxLen], .inr ⟨b, 2, T, _, by omega, rfl, h, by rw [ledCells_len hl]; omega, ?_⟩⟩
  rw [hl]; exact tens_take hl g e
theorem led_take {xs : List (TenM × Value)} {i : Nat} {x : TenM × Value} (hi : xs[i]? = some x) (g e : Int) : ((ledCells g e xs).drop (2 + i * 5)).take 5 = cTen x := by
  unfold ledCells
  rw [← List.drop_drop, List.drop_append_of_le_length (by simp)]
  simp only [List.drop_succ_cons, List.drop_zero, List.drop_nil, List.nil_append]
  rw [drop_flatMap cTen_len]
  obtain ⟨hl, he⟩ := List.getElem?_eq_some_iff.1 hi
  rw [List.drop_eq_getElem_cons hl, List.flatMap_cons, he, ← cTen_len x, List.take_left]
def ownerAt (bl : Int) : List TenM → Nat → Int
  | [], _ => -1
  | t :: ts, i => if bl ∈ t.blocks then (i : Int) else ownerAt bl ts (i + 1)
def LedM.owner (l : LedM) (bl : Int) : Int := ownerAt bl l.tens 0
theorem Owner_in {w : World} {x : TenM × Value} {bl : Int} {vb : Nat} {K : Value → World → Prop} (hx : Ints w x.2 x.1.blocks) (hf : x.1.blocks.length ≤ 1000) (hb : Blk w vb 3 [i64 bl])
    (k : ∀ w', Fr w w' → K (.bool (decide (bl ∈ x.1.blocks))) w') : pCall P 194 [tenVal x, ptr vb 0] K w := by
  refine c194 ?_
  unfold G194
  refine pNew_of (cTen x) rfl fun b w1 hb' hbl hf1 h1 => ?_
  simp
  refine pLd1 h1 lay_24 (v := x.2) rfl ?_
  refine pLd1 (hf1.blk hb fun h => h) lay_3 rfl ?_
  refine Contains_int (hx.fr hf1) (by omega) ?_
  exact k w1 hf1
theorem Ledger_Owner {w : World} {l : LedM} {xs : List (TenM × Value)} {bl : Int} {K : Value → World → Prop} (h : LedX w xs l)
    (k : ∀ w', Fr w w' → K (i64 (l.owner bl)) w') : pCall P 159 [ledVal l xs, i64 bl] K w := by
  refine c159 ?_
  unfold G159
  refine pNew_of (ledCells l.gen l.epochs xs) (by rfl) fun lb w1 hlb hlbl hf1 h1 => ?_
  refine pNew_of [i64 bl] rfl fun vb w2 hvb hvbl hf2 h2 => ?_
  simp
  refine pSliceAll und_54 lay_53 ?_
  refine c193 ?_
  unfold G193
  have hf02 := hf1.trans hf2
  rw [(tens_sl (hf2.blk h1 fun h => h) h.len).len (by simp), pVal_some]
  simp only [h.len]
  unfold LedM.owner at k
  refine loop1_up 4 (fun i w' => Fr w w' ∧ Blk w' lb 56 (ledCells l.gen l.epochs xs) ∧ Blk w' vb 3 [i64 bl] ∧ ownerAt bl l.tens 0 = ownerAt bl (l.tens.drop i) i) ?_ ?_
  · exact ⟨hf02, hf2.blk h1 fun h => h, h2, rfl⟩
  rintro i w4 ag hag hi ⟨hf4, hl4, hv4, heq⟩
  by_cases hlt : i < 4
  rotate_left
  · have hlt' : ¬ (i : Int) < 4 := by omega
    simp [hlt']
    obtain rfl : i = 4 := by omega
    have hd : l.tens.drop 4 = [] := List.drop_of_length_le (by rw [← h.tens, List.length_map, h.len]; omega)
    rw [heq, hd] at k
    exact k w4 hf4
  have hlt' : (i : Int) < 4 := by omega
  obtain ⟨x, hx, hxm, htx, _⟩ := h.at hlt
  rw [checkTens_drop htx, ownerAt] at heq
  simp [hlt']
  refine pLdN (cTen x) hl4 lay_53 (by rw [ledCells_len h.len]; omega) ?_ ?_
  · exact led_take hx l.gen l.epochs
  refine pCallV_of ?_
  simp
  refine Owner_in ((h.mem x hxm).fr hf4) (h.few x hxm) hv4 fun w5 hf5 => ?_
  by_cases g : bl ∈ x.1.blocks
  · rw [if_pos g] at heq
    simp [g]
    rw [heq] at k
    exact k w5 (hf4.trans hf5)
  · rw [if_neg g] at heq
    simp [g]
    rw [wrap_succ (by omega)]
    exact hag (i + 1) w5 (by omega) (by omega) ⟨hf4.trans hf5, hf5.blk hl4 fun h => h, hf5.blk hv4 fun h => h, heq⟩
def freeFrom (l : LedM) (bad : Int → Bool) (from_ : Int) : Nat → List Int
  | 0 => []
  | n + 1 => (if l.owner from_ < 0 ∧ bad from_ = false then [from_] else []) ++ freeFrom l bad (from_ + 1) n
def LedM.free (l : LedM) (blocks : Int) (bad : Int → Bool) : List Int := freeFrom l bad 2 (blocks - 2).toNat
theorem rowV_int (z : Int) (h : True) : rowV P 3 1 1 [(0, i64 z)] = some ([z].flatMap cI) := by
  rw [rowV_one (l := [i64 z]) zero_3 (by rfl) (by omega) (by omega) (by rfl) (by rfl)]; rfl
theorem Ledger_Free {w : World} {l : LedM} {xs : List (TenM × Value)} {blocks : Int} {bad : Int → Bool} {f : FuncId} {fa fc : Array Value} {K : Value → World → Prop} (h : LedX w xs l) (hb0 : blocks ≤ 1000000)
    (hbad : ∀ b w' (K' : Value → World → Prop), Fr w w' → K' (.bool (bad b)) w' → pCallV P (.func (.func f) fa fc) [i64 b] K' w')
    (k : ∀ v w', Fr w w' → Ints w' v (l.free blocks bad) → Fresh w v → K v w') : pCall P 126 [ledVal l xs, i64 blocks, .func (.func f) fa fc] K w := by
  refine c126 ?_
  unfold G126
  refine pNew_of (ledCells l.gen l.epochs xs) (by rfl) fun lb w1 hlb hlbl hf1 h1 => ?_
  unfold LedM.free at k
  obtain ⟨N, hN⟩ : ∃ N, N = (blocks - 2).toNat := ⟨_, rfl⟩
  rw [← hN] at k
  refine loop2_upR 2 (N + 2) (fun i x w' => ∃ got, Fr w w' ∧ Blk w' lb 56 (ledCells l.gen l.epochs xs) ∧ Ints w' x got ∧ Fresh w x ∧ (∀ c, live x = some c → lb < c) ∧ freeFrom l bad 2 N = got ++ freeFrom l bad i (N + 2 - i) ∧ got.length ≤ i) (by omega) ?_ ?_
  · exact ⟨[], hf1, h1, Sl.nil _ cI_len, Fresh.nil _, (fun c hc => by cases hc), rfl, by simp⟩
  rintro i x w4 ag hag hmi hi ⟨got, hf4, hl4, hx4, hfr4, hlb4, heq, hgl⟩
  by_cases hlt : i < N + 2
  rotate_left
  · have hlt' : ¬ (i : Int) < blocks := by omega
    simp [hlt']
    have e0 : N + 2 - i = 0 := by omega
    rw [e0, freeFrom, List.append_nil] at heq
    rw [heq] at k
    exact k x w4 hf4 hx4 hfr4
  have hlt' : (i : Int) < blocks := by omega
  simp only [binV_lss, pVal_some, hlt', decide_true, pIf_bool, if_true]
  obtain ⟨r, hr⟩ : ∃ r, N + 2 - i = r + 1 := ⟨N + 2 - i - 1, by omega⟩
  have hr2 : N + 2 - (i + 1) = r := by omega
  rw [hr, freeFrom, ← List.append_assoc] at heq
  have hw1 : IntKind.i64.wrap ((i : Int) + 1) = ((i + 1 : Nat) : Int) := wrap_succ (by omega)
  refine join1 (fun v w' => v = .bool (decide (l.owner i < 0 ∧ bad i = false)) ∧ Fr w4 w') ?_ ?_
  rotate_left
  · intro J hJ
    refine pLdN (ledCells l.gen l.epochs xs) hl4 lay_56 (by rw [ledCells_len h.len]; omega) (by rw [List.drop_zero, List.take_of_length_le (by rw [ledCells_len h.len]; omega)]) ?_
    refine Ledger_Owner (h.fr hf4) fun w5 hf5 => ?_
    simp
    by_cases g : l.owner i < 0
    · simp [g]
      rw [binV_func_eql (by simp)]
      simp
      refine hbad _ _ _ (hf4.trans hf5) ?_
      simp
      exact hJ _ _ ⟨by simp [g], hf5⟩
    · simp [g]
      exact hJ _ _ ⟨by simp [g], hf5⟩
  rintro _ w5 ⟨rfl, hf5⟩
  have hl5 : Blk w5 lb 56 (ledCells l.gen l.epochs xs) := hf5.blk hl4 fun h => h
  have hx5 := hx4.fr hf5
  rw [pIf_bool]
  by_cases g : l.owner i < 0 ∧ bad i = false
  · rw [decide_eq_true g, if_pos rfl]
    rw [if_pos g] at heq
    refine pRowN [(i : Int)] sli_int cI_len rfl (by omega) (rowV_int _ trivial) fun v w6 hs6 hf6 hfr6 => ?_
    refine pAppend sli_int (hx5.fr hf6) hs6 cI_one (by simp; omega) (by omega) fun v' w7 hs7 hc7 hl7 => ?_
    simp only [binV_add, pVal_some, hw1]
    have hf07 : Fr w w7 := Ch.trans ((hf4.trans hf5).trans hf6) hc7 fun b hb hx' => by have := hfr4 b hx'; omega
    · refine hag (i + 1) v' w7 (by omega) (by omega) ⟨got ++ [(i : Int)], hf07, ?_, hs7, ?_, ?_, ?_, by simp; omega⟩
      · exact hc7.blk (hf6.blk hl5 fun h => h) fun hh => by have := hlb4 _ hh; omega
      · intro c hc
        rcases hl7 with e | ⟨c', e, hle⟩
        · exact hfr4 c (by rw [← e]; exact hc)
        · rw [hc] at e; cases e
          have := hf4.size; have := hf5.size; have := hf6.size; omega
      · intro c hc
        rcases hl7 with e | ⟨c', e, hle⟩
        · exact hlb4 c (by rw [← e]; exact hc)
        · rw [hc] at e; cases e
          have := hl5.lt; have := hf6.size; omega
      · rw [hr2]; simpa using heq
  · rw [decide_eq_false g, if_neg Bool.false_ne_true]
    rw [if_neg g, List.append_nil] at heq
    simp only [binV_add, pVal_some, hw1]
    exact hag (i + 1) x w5 (by omega) (by omega) ⟨got, hf4.trans hf5, hl5, hx5, hfr4, hlb4, by rw [hr2]; simpa using heq, by omega⟩
end Go.Al

namespace Go.Al
open Go Go.Proofs
def ledZs : List (TenM × Value) := List.replicate 4 (TenM.zero, .slice none 0 0)
def ledZ : Value := ledVal LedM.zero ledZs
theorem ledZs_x (w : World) : LedX w ledZs LedM.zero := by
  refine ⟨by simp [ledZs, LedM.zero], rfl, fun x hx => ?_, fun x hx => ?_⟩
  · rw [List.eq_of_mem_replicate hx]; exact Sl.nil _ cI_len
  · rw [List.eq_of_mem_replicate hx]; simp [TenM.zero]
theorem led_build : buildV P 56 [] = some ledZ := by kernel_rfl
theorem led_res {w : World} {rb : Nat} {l0 : List Value} {l : LedM} {xs : List (TenM × Value)} {K : Value → World → Prop} (h : Blk w rb 56 l0) (hl : l0.length = 22) (hx : LedX w xs l)
    (k : ∀ w', Ch (· = rb) w w' → K (ledVal l xs) w') : (pSt P 56 (ptr rb 0) (ledVal l xs) <| pRes P 56 (ptr rb 0) K) w := by
  refine pStN (ledCells l.gen l.epochs xs) h lay_56 rfl (ledCells_len hx.len _ _) (by omega) (ledCells_one hx _ _) fun w4 hc4 h4 => ?_
  have e : splice l0 0 (ledCells l.gen l.epochs xs) = ledCells l.gen l.epochs xs := by
    unfold splice
    rw [List.take_zero, List.nil_append, List.drop_of_length_le (by rw [ledCells_len hx.len]; omega), List.append_nil]
  rw [e] at h4
  exact pResN h4 lay_56 (ledCells_len hx.len _ _) (k w4 hc4)
theorem led_err {w : World} {rb : Nat} {l0 : List Value} {K : Value → World → Prop} (h : Blk w rb 56 l0) (hl : l0.length = 22)
    (k : ∀ w', Ch (· = rb) w w' → K ledZ w') : (pVal (buildV P 56 []) fun v => pSt P 56 (ptr rb 0) v <| pRes P 56 (ptr rb 0) K) w := by
  rw [led_build, pVal_some]
  exact led_res h hl (ledZs_x w) k
structure LedM.ok (l : LedM) : Prop where
  gen : 0 ≤ l.gen ∧ l.gen ≤ 2147483647
  epochs : 0 ≤ l.epochs ∧ l.epochs ≤ 2147483647
theorem Ledger_change {w : World} {l l' : LedM} {xs : List (TenM × Value)} {fv : Value} {K : Value → World → Prop} (h : LedX w xs l) (ok : l.ok)
    (k0 : ∀ w', Fr w w' → l.gen = 2147483647 → K (.tuple #[ledZ, i64 4]) w')
    (kd : ∀ w' ob rb xs' (K' : Value → World → Prop), Fr w w' → l.gen ≠ 2147483647 → w.heap.size ≤ ob → w.heap.size ≤ rb → ob ≠ rb → rb < w'.heap.size → Blk w' ob 56 (ledCells (l.gen + 1) l.epochs xs') → LedX w' xs' l →
      (∀ x ∈ xs', ∀ c, live x.2 = some c → w.heap.size ≤ c ∧ c ≠ rb ∧ c ≠ ob) → Apart xs' →
      (∀ v w'' ys, Ch (fun b => w.heap.size ≤ b ∧ b ≠ rb) w' w'' → Blk w'' ob 56 (ledCells l'.gen l'.epochs ys) → LedX w'' ys l' → (∀ x ∈ ys, ∀ c, live x.2 = some c → w.heap.size ≤ c ∧ c ≠ rb) → K' v w'') → pCallV P fv [ptr ob 0] K' w')
    (k : ∀ w' ys, Fr w w' → l.gen ≠ 2147483647 → LedX w' ys l' → (∀ x ∈ ys, Fresh w x.2) → K (.tuple #[ledVal l' ys, i64 0]) w') : pCall P 124 [ledVal l xs, fv] K w := by
  refine c124 ?_
  unfold G124
  refine pNew_of (ledCells l.gen l.epochs xs) (by rfl) fun lb w1 hlb hlbl hf1 h1 => ?_
  refine pAlloc_of (ledCells 0 0 (List.replicate 4 (TenM.zero, .slice none 0 0))) zero_56 (by rfl) fun rb w2 hrb hrbl hf2 h2 => ?_
  have hf02 := hf1.trans hf2
  have h1' := hf2.blk h1 fun h => h
  have hs1 := hf1.size
  simp only [fieldV_56_0, pVal_some]
  refine pLd1 h1' lay_3 (v := i64 l.gen) rfl ?_
  simp only [binV_eql, pVal_some, pIf_bool, decide_eq_true_eq]
  by_cases g : l.gen = 2147483647
  · rw [if_pos g]
    refine led_err h2 (ledCells_len rfl _ _) fun w3 hc3 => ?_
    exact k0 w3 (Ch.trans' hf02 (by omega) hc3) g
  rw [if_neg g]
  refine pLdN (ledCells l.gen l.epochs xs) h1' lay_56 (by rw [ledCells_len h.len]; omega) (by rw [List.drop_zero, List.take_of_length_le (by rw [ledCells_len h.len]; omega)]) ?_
  refine Ledger_Twin (h.fr hf02) fun w3 zs hf3 hz3 hfr3 hap3 => ?_
  refine pAlloc_of (ledCells 0 0 (List.replicate 4 (TenM.zero, .slice none 0 0))) zero_56 (by rfl) fun ob w4 hob hobl hf4 h4 => ?_
  have hs3 := hf3.size
  have hob3 : w3.heap.size = ob := hob.symm
  refine pStN (ledCells l.gen l.epochs zs) h4 lay_56 rfl (ledCells_len hz3.len _ _) (by rw [ledCells_len rfl]; omega) (ledCells_one hz3 _ _) fun w5 hc5 h5 => ?_
  have e : splice (ledCells 0 0 (List.replicate 4 (TenM.zero, Value.slice none 0 0))) 0 (ledCells l.gen l.epochs zs) = ledCells l.gen l.epochs zs := by
    unfold splice
    rw [List.take_zero, List.nil_append, List.drop_of_length_le (by rw [ledCells_len rfl, ledCells_len hz3.len]; omega), List.append_nil]
  rw [e] at h5
  have hlive : ∀ x ∈ zs, ∀ c, live x.2 = some c → w2.heap.size ≤ c ∧ c < w3.heap.size := fun x hx c hc => ⟨hfr3 x hx c hc, (hz3.mem x hx).live_lt hc⟩
  have hz5 : LedX w5 zs l := (hz3.fr hf4).ch hc5 fun x hx c hc he => by have := hlive x hx c hc; omega
  simp only [fieldV_56_0, pVal_some]
  refine pLd1 h5 lay_3 (v := i64 l.gen) rfl ?_
  have hwr : IntKind.i64.wrap (l.gen + 1) = l.gen + 1 := wrap_in (by have := ok.gen; omega) (by have := ok.gen; omega)
  simp only [binV_add, pVal_some, hwr, fieldV_56_0]
  refine pSt1 h5 lay_3 rfl rfl (by rw [ledCells_len hz3.len]; omega) fun w6 hc6 h6 => ?_
  have e6 : (ledCells l.gen l.epochs zs).set (0 + 0) (i64 (l.gen + 1)) = ledCells (l.gen + 1) l.epochs zs := rfl
  rw [e6] at h6
  have hf06 : Fr w w6 := Ch.trans' (Ch.trans' ((hf02.trans hf3).trans hf4) (by omega) hc5) (by omega) hc6
  have hs5 := hc5.size
  have hs6 := hc6.size
  have hrb6 : Blk w6 rb 56 (ledCells 0 0 (List.replicate 4 (TenM.zero, .slice none 0 0))) := hc6.blk (hc5.blk (hf4.blk (hf3.blk h2 fun h => h) fun h => h) (by omega)) (by omega)
  refine kd w6 ob rb zs _ hf06 g (by omega) (by omega) (by omega) hrb6.lt h6 (hz5.ch hc6 fun x hx c hc he => by have := hlive x hx c hc; omega) (fun x hx c hc => by have := hlive x hx c hc; omega) hap3 fun v w7 ys hc7 h7 hy7 hly7 => ?_
  refine pLdN (ledCells l'.gen l'.epochs ys) h7 lay_56 (by rw [ledCells_len hy7.len]; omega) (by rw [List.drop_zero, List.take_of_length_le (by rw [ledCells_len hy7.len]; omega)]) ?_
  have hrb7 := hc7.blk hrb6 (by simp)
  refine led_res hrb7 (ledCells_len rfl _ _) hy7 fun w8 hc8 => ?_
  have hf08 : Fr w w8 := Ch.trans' (Ch.trans hf06 hc7 fun b hb hx' => by omega) (by omega) hc8
  exact k w8 ys hf08 g (hy7.ch hc8 fun x hx c hc he => by have := (hly7 x hx c hc).2; omega) fun x hx c hc => (hly7 x hx c hc).1
def LedM.make (l : LedM) (n : LedM) : Int × LedM := if l.gen = 2147483647 then (4, LedM.zero) else (0, n)
def LedM.create (l : LedM) (t size spare : Int) (got : List Int) : Int × LedM :=
  if l.there t = 0 then (7, LedM.zero) else
  if l.there t ≠ 6 then (l.there t, LedM.zero) else
  if ruleCheck size spare ≠ 0 then (ruleCheck size spare, LedM.zero) else
  if l.epochs = 2147483647 then (4, LedM.zero) else
  l.make ⟨l.gen + 1, l.epochs + 1, l.tens.set t.toNat ⟨true, l.epochs + 1, size, spare, got⟩⟩
theorem LedM.there_6 {l : LedM} {t : Int} (h : l.there t = 6) : ∃ i : Nat, t = i ∧ i < 4 := by
  unfold LedM.there at h
  split at h
  · cases h
  · exact ⟨t.toNat, by omega, by omega⟩
theorem LedX.set {w : World} {xs : List (TenM × Value)} {l : LedM} (h : LedX w xs l) {i : Nat} {y : TenM × Value} (hy : Ints w y.2 y.1.blocks) (hf : y.1.blocks.length ≤ 1000) (g e : Int) : LedX w (xs.set i y) ⟨g, e, l.tens.set i y.1⟩ := by
  refine ⟨by rw [List.map_set, h.tens], by simpa using h.len, fun x hx => ?_, fun x hx => ?_⟩
  · rcases List.mem_or_eq_of_mem_set hx with hx | rfl
    · exact h.mem x hx
    · exact hy
  · rcases List.mem_or_eq_of_mem_set hx with hx | rfl
    · exact h.few x hx
    · exact hf
theorem cTen_one {w : World} {x : TenM × Value} (h : Ints w x.2 x.1.blocks) : (cTen x).all (·.oneCell') = true := by
  simp [cTen, h.one]; exact ⟨rfl, rfl, rfl, rfl⟩
theorem ten_build (a : Bool) (b c d : Int) (v : Value) (hv : v.cells.toList = [v]) : buildV P 53 [(0, .bool a), (1, i64 b), (2, i64 c), (3, i64 d), (4, v)] = some (.agg #[.bool a, i64 b, i64 c, i64 d, v]) := by
  simp [buildV_app, fillL, fillA, splice, hv]
theorem Ledger_Create {w : World} {l : LedM} {xs : List (TenM × Value)} {t size spare : Int} {gv : Value} {got : List Int} {K : Value → World → Prop} (h : LedX w xs l) (ok : l.ok) (hg : Ints w gv got) (hgl : got.length ≤ 1000)
    (k0 : ∀ w', Fr w w' → (l.create t size spare got).1 ≠ 0 → K (.tuple #[ledZ, i64 (l.create t size spare got).1]) w')
    (k : ∀ w' ys, Fr w w' → (l.create t size spare got).1 = 0 → LedX w' ys (l.create t size spare got).2 → (∀ x ∈ ys, Fresh w x.2) → K (.tuple #[ledVal (l.create t size spare got).2 ys, i64 0]) w') :
    pCall P 63 [ledVal l xs, i64 t, i64 size, i64 spare, gv] K w := by
  refine c63 ?_
  unfold G63
  refine pNew_of (ledCells l.gen l.epochs xs) (by rfl) fun lb w1 hlb hlbl hf1 h1 => ?_
  refine pNew_of [i64 t] rfl fun tb w2 htb htbl hf2 h2 => ?_
  refine pNew_of [i64 size] rfl fun sb w3 hsb hsbl hf3 h3 => ?_
  refine pNew_of [i64 spare] rfl fun pb w4 hpb hpbl hf4 h4 => ?_
  refine pNew_of [gv] hg.cell1 fun gb w5 hgb hgbl hf5 h5 => ?_
  refine pAlloc_of (ledCells 0 0 (List.replicate 4 (TenM.zero, .slice none 0 0))) zero_56 (by rfl) fun rb w6 hrb hrbl hf6 h6 => ?_
  have s1 := hf1.size; have s2 := hf2.size; have s3 := hf3.size; have s4 := hf4.size; have s5 := hf5.size
  have hf06 : Fr w w6 := ((((hf1.trans hf2).trans hf3).trans hf4).trans hf5).trans hf6
  have h1 := hf6.blk (hf5.blk (hf4.blk (hf3.blk (hf2.blk h1 fun h => h) fun h => h) fun h => h) fun h => h) fun h => h
  have h2 := hf6.blk (hf5.blk (hf4.blk (hf3.blk h2 fun h => h) fun h => h) fun h => h) fun h => h
  have h3 := hf6.blk (hf5.blk (hf4.blk h3 fun h => h) fun h => h) fun h => h
  have h4 := hf6.blk (hf5.blk h4 fun h => h) fun h => h
  have h5 := hf6.blk h5 fun h => h
  refine pLdN (ledCells l.gen l.epochs xs) h1 lay_56 (by rw [ledCells_len h.len]; omega) (by rw [List.drop_zero, List.take_of_length_le (by rw [ledCells_len h.len]; omega)]) ?_
  refine pLd1 h2 lay_3 rfl ?_
  refine Ledger_there (h.fr hf06) fun w7 hf7 => ?_
  have hf07 := hf06.trans hf7
  have h6 := hf7.blk h6 fun h => h
  have kerr : ∀ (e : Int) (wa : World), e ≠ 0 → Fr w7 wa → (l.create t size spare got).1 = e → (pVal (buildV P 56 []) fun v => pSt P 56 (ptr rb 0) v <| pRes P 56 (ptr rb 0) fun r => K (.tuple #[r, i64 e])) wa := by
    intro e wa hne hfa he
    refine led_err (hfa.blk h6 fun h => h) (ledCells_len rfl _ _) fun w8 hc8 => ?_
    have := k0 w8 (Ch.trans' (hf07.trans hfa) (by omega) hc8) (by rw [he]; exact hne)
    rw [he] at this; exact this
  simp only [binV_eql, binV_neq, pVal_some, pIf_bool, decide_eq_true_eq, Bool.not_eq_true', decide_eq_false_iff_not]
  by_cases g1 : l.there t = 0
  · rw [if_pos g1]
    exact kerr 7 w7 (by omega) (Ch.refl _ _) (by unfold LedM.create; rw [if_pos g1])
  rw [if_neg g1]
  by_cases g2 : l.there t = 6
  rotate_left
  · rw [if_pos g2]
    exact kerr (l.there t) w7 g1 (Ch.refl _ _) (by unfold LedM.create; rw [if_neg g1, if_pos g2])
  rw [if_neg (by simpa using g2)]
  refine pLd1 (hf7.blk h3 fun h => h) lay_3 rfl ?_
  refine pLd1 (hf7.blk h4 fun h => h) lay_3 rfl ?_
  refine Rule_Check ?_
  simp only [binV_eql, binV_neq, pVal_some, pIf_bool, decide_eq_true_eq, Bool.not_eq_true', decide_eq_false_iff_not]
  by_cases g3 : ruleCheck size spare = 0
  rotate_left
  · rw [if_pos g3]
    exact kerr _ w7 g3 (Ch.refl _ _) (by unfold LedM.create; rw [if_neg g1, if_neg (by simpa using g2), if_pos g3])
  rw [if_neg (by simpa using g3)]
  simp only [fieldV_56_1, pVal_some]
  refine pLd1 (hf7.blk h1 fun h => h) lay_3 (v := i64 l.epochs) rfl ?_
  simp only [binV_eql, binV_neq, pVal_some, pIf_bool, decide_eq_true_eq, Bool.not_eq_true', decide_eq_false_iff_not]
  by_cases g4 : l.epochs = 2147483647
  · rw [if_pos g4]
    exact kerr 4 w7 (by omega) (Ch.refl _ _) (by unfold LedM.create; rw [if_neg g1, if_neg (by simpa using g2), if_neg (by simpa using g3), if_pos g4])
  rw [if_neg g4]
  have hcr : l.create t size spare got = l.make ⟨l.gen + 1, l.epochs + 1, l.tens.set t.toNat ⟨true, l.epochs + 1, size, spare, got⟩⟩ := by
    unfold LedM.create; rw [if_neg g1, if_neg (by simpa using g2), if_neg (by simpa using g3), if_neg g4]
  rw [hcr] at k0 k
  clear kerr hcr
  obtain ⟨i, rfl, hi⟩ := LedM.there_6 g2
  rw [Int.toNat_natCast] at k0 k
  refine pLdN (ledCells l.gen l.epochs xs) (hf7.blk h1 fun h => h) lay_56 (by rw [ledCells_len h.len]; omega) (by rw [List.drop_zero, List.take_of_length_le (by rw [ledCells_len h.len]; omega)]) ?_
  have h2 := hf7.blk h2 fun h => h
  have h3 := hf7.blk h3 fun h => h
  have h4 := hf7.blk h4 fun h => h
  have h5 := hf7.blk h5 fun h => h
  have hg7 := hg.fr hf07
  unfold LedM.make at k0 k
  have hs7 := hf7.size
  have hs06 := hf06.size
  have hwe : IntKind.i64.wrap (l.epochs + 1) = l.epochs + 1 := wrap_in (by have := ok.epochs; omega) (by have := ok.epochs; omega)
  refine Ledger_change (l' := ⟨l.gen + 1, l.epochs + 1, l.tens.set i ⟨true, l.epochs + 1, size, spare, got⟩⟩) (h.fr hf07) ok ?_ ?_ ?_
  · intro w8 hf8 hgen
    simp
    rw [if_pos hgen] at k0
    refine led_res (hf8.blk h6 fun h => h) (ledCells_len rfl _ _) (ledZs_x w8) fun w9 hc9 => ?_
    exact k0 w9 (Ch.trans' (hf07.trans hf8) (by omega) hc9) (by simp)
  · intro w8 ob rb2 zs K' hf8 hgen hob hrb2 hor hrbl2 hb8 hz8 hlz hapz kk
    refine pCallV_of ?_
    simp
    refine c125 ?_
    unfold G125
    simp
    refine pLd1 hb8 lay_3 (v := i64 l.epochs) rfl ?_
    simp [hwe]
    refine pSt1 hb8 lay_3 rfl rfl (by rw [ledCells_len hz8.len]; omega) fun w9 hc9 h9 => ?_
    have e9 : (ledCells (l.gen + 1) l.epochs zs).set 1 (i64 (l.epochs + 1)) = ledCells (l.gen + 1) (l.epochs + 1) zs := rfl
    rw [e9] at h9
    have hz9 : LedX w9 zs l := hz8.ch hc9 fun x hx c hc he => by have := hlz x hx c hc; omega
    have a2 : Blk w9 tb 3 [i64 i] := hc9.blk (hf8.blk h2 fun h => h) (by have := h2.lt; omega)
    have a3 : Blk w9 sb 3 [i64 size] := hc9.blk (hf8.blk h3 fun h => h) (by have := h3.lt; omega)
    have a4 : Blk w9 pb 3 [i64 spare] := hc9.blk (hf8.blk h4 fun h => h) (by have := h4.lt; omega)
    have a5 : Blk w9 gb 24 [gv] := hc9.blk (hf8.blk h5 fun h => h) (by have := h5.lt; omega)
    have a6 : Ints w9 gv got := (hg7.fr hf8).ch hc9 fun c hc he => by have := hg7.live_lt hc; omega
    refine pDraw_fr (fun w' => Fr w9 w') fun w10 hf10 hb10 hs10 => ⟨hf10, ?_⟩
    refine pHld1 (fun w' hS => hS.blk a2 fun h => h) lay_3 rfl ?_
    simp
    refine pHld1 (fun w' hS => hS.blk h9 fun h => h) lay_3 (v := i64 (l.epochs + 1)) rfl ?_
    refine pHld1 (fun w' hS => hS.blk a3 fun h => h) lay_3 rfl ?_
    refine pHld1 (fun w' hS => hS.blk a4 fun h => h) lay_3 rfl ?_
    refine pHld1 (fun w' hS => hS.blk a5 fun h => h) lay_24 rfl ?_
    refine Clone_int (a6.fr hf10) (by omega) fun gv' w11 hg11 hf11 hr11 => ?_
    have hf911 := hf10.trans hf11
    rw [pKeep_true]
    refine ⟨hf911, ?_⟩
    rw [ten_build _ _ _ _ _ hg11.cell1, pVal_some]
    have hlt4 : (i : Int) < 4 := by omega
    simp [hlt4]
    refine pStN (cTen (⟨true, l.epochs + 1, size, spare, got⟩, gv')) (hf911.blk h9 fun h => h) lay_53 rfl rfl (by rw [ledCells_len hz8.len]; omega) (cTen_one hg11) fun w12 hc12 h12 => ?_
    rw [led_splice (by rw [hz8.len]; exact hi)] at h12
    have hgl11 : ∀ c, live gv' = some c → w9.heap.size ≤ c ∧ c < w11.heap.size := fun c hc => ⟨by have := hr11 c hc; omega, hg11.live_lt hc⟩
    have hs9 := hc9.size
    have hob9 := h9.lt
    refine kk _ w12 _ ?_ h12 ?_ ?_
    · exact Ch.trans (Ch.trans (hc9.mono (B' := fun b => w7.heap.size ≤ b ∧ b ≠ rb2) fun b hb e => by subst e; exact ⟨hob, hor⟩) hf911 fun b hb e => e.elim) hc12 fun b hb e => by subst e; exact ⟨hob, hor⟩
    · refine LedX.set ((hz9.fr hf911).ch hc12 fun x hx c hc he => ?_) (hg11.ch hc12 fun c hc he => ?_) hgl _ _
      · have := hlz x hx c hc; omega
      · have := hgl11 c hc; omega
    · intro x hx c hc
      rcases List.mem_or_eq_of_mem_set hx with hx | rfl
      · have := hlz x hx c hc; omega
      · have := hgl11 c hc; omega
  · intro w8 ys hf8 hgen hy8 hfy8
    simp
    rw [if_neg hgen] at k
    refine led_res (hf8.blk h6 fun h => h) (ledCells_len rfl _ _) hy8 fun w9 hc9 => ?_
    refine k w9 ys (Ch.trans' (hf07.trans hf8) (by omega) hc9) rfl (hy8.ch hc9 fun x hx c hc he => ?_) fun x hx c hc => ?_
    · have := hfy8 x hx c hc; have := h6.lt; omega
    · have := hfy8 x hx c hc; omega
end Go.Al

namespace Go.Al
open Go Go.Proofs
theorem rowV_int2 (x y : Int) : rowV P 3 1 2 [(0, i64 x), (1, i64 y)] = some ([x, y].flatMap cI) := by
  unfold rowV
  rw [zero_3]
  rfl
end Go.Al

namespace Go.Al
open Go Go.Proofs
def TenM.nums (t : TenM) : List Int := t.size :: t.spare :: (t.blocks.length : Int) :: t.blocks
def putNums (b : List UInt8) (l : List Int) : List UInt8 := l.foldl (fun b n => putM b n 1) b
def TenM.put (b : List UInt8) (t : TenM) : List UInt8 := if t.there then putNums (putM (putM b 1 1) t.epoch 4) t.nums else putM b 0 1
def LedM.body (l : LedM) : List UInt8 := l.tens.foldl TenM.put (putM (putM [] l.gen 4) l.epochs 4)
def LedM.bytes (l : LedM) (blocks pages : Int) : Int × List UInt8 := if l.check blocks pages ≠ 0 then (l.check blocks pages, []) else frameMake 76 l.body
theorem putNums_length : ∀ (l : List Int) (b : List UInt8), (putNums b l).length ≤ b.length + 4 * l.length
  | [], b => by simp [putNums]
  | n :: l, b => by
    have h1 := putNums_length l (putM b n 1)
    have h2 := putM_length b n 1
    show (putNums (putM b n 1) l).length ≤ _
    simp; omega
theorem TenM.put_length (b : List UInt8) (t : TenM) : (TenM.put b t).length ≤ b.length + 20 + 4 * t.blocks.length := by
  unfold TenM.put
  have h0 := putM_length b 0 1
  have h1 := putM_length b 1 1
  have h2 := putM_length (putM b 1 1) t.epoch 4
  have h3 := putNums_length t.nums (putM (putM b 1 1) t.epoch 4)
  have h4 : t.nums.length = t.blocks.length + 3 := by simp [TenM.nums]
  split <;> omega
theorem rowV_int3 (x y z : Int) : rowV P 3 1 3 [(0, i64 x), (1, i64 y), (2, i64 z)] = some ([x, y, z].flatMap cI) := by
  unfold rowV
  rw [zero_3]
  rfl
theorem Snap_tenant {w : World} {v : Value} {b : List UInt8} {x : TenM × Value} {K : Value → World → Prop} (h : Bytes w v b) (h63 : b.length ≤ 1000000) (hx : Ints w x.2 x.1.blocks) (hf : x.1.blocks.length ≤ 1000)
    (k : ∀ v' w', Bytes w' v' (x.1.put b) → Fr w w' → Fresh w v' → K v' w') : pCall P 199 [v, tenVal x] K w := by
  refine c199 ?_
  unfold G199
  refine pNew_of (cTen x) rfl fun tb w1 htb htbl hf1 h1 => ?_
  unfold TenM.put at k
  try simp
  refine pLd1 h1 lay_4 (v := .bool x.1.there) rfl ?_
  try simp
  cases hth : x.1.there
  · simp
    rw [hth] at k
    refine Word_Put (h.fr hf1) (by omega) fun v2 w2 hs2 hf2 hr2 => ?_
    exact k v2 w2 (by simpa using hs2) (hf1.trans hf2) fun c hc => by have := hr2 c hc; have := hf1.size; omega
  rw [hth] at k
  try simp
  refine pDraw_fr (fun w' => Fr w1 w') fun w2 hf2 _ _ => ⟨hf2, ?_⟩
  refine pHld1 (fun w' hS => hS.blk h1 fun h => h) lay_3 (v := i64 x.1.epoch) rfl ?_
  refine Word_Put ((h.fr hf1).fr hf2) (by omega) fun v3 w3 hs3 hf3 hr3 => ?_
  rw [pKeep_true]
  refine ⟨hf2.trans hf3, ?_⟩
  have l3 := putM_length b 1 1
  refine Word_Put hs3 (by omega) fun v4 w4 hs4 hf4 hr4 => ?_
  have l4 := putM_length (putM b 1 1) x.1.epoch 4
  have hf14 := (hf2.trans hf3).trans hf4
  have hf04 := hf1.trans hf14
  have h4 := hf14.blk h1 fun h => h
  try simp
  refine pLd1 h4 lay_3 (v := i64 x.1.size) rfl ?_
  refine pLd1 h4 lay_3 (v := i64 x.1.spare) rfl ?_
  refine pLd1 h4 lay_24 (v := x.2) rfl ?_
  rw [(hx.fr hf04).len (by simp), pVal_some]
  refine pRowN [x.1.size, x.1.spare, (x.1.blocks.length : Int)] sli_int cI_len rfl (by omega) (rowV_int3 _ _ _) fun rv w5 hs5 hf5 hr5 => ?_
  try simp
  refine pLd1 (hf5.blk h4 fun h => h) lay_24 (v := x.2) rfl ?_
  refine pAppend sli_int hs5 (hx.fr (hf04.trans hf5)) cI_one (by simp; omega) (by omega) fun nv w6 hs6 hc6 hl6 => ?_
  have hnums : ([x.1.size, x.1.spare, (x.1.blocks.length : Int)] ++ x.1.blocks) = x.1.nums := rfl
  rw [hnums] at hs6
  have hf56 : Fr w4 w6 := Ch.trans hf5 hc6 fun b hb hl => by have := hr5 b hl; omega
  have hf06 := hf04.trans hf56
  have hnl : x.1.nums.length = x.1.blocks.length + 3 := by simp [TenM.nums]
  rw [hs6.len (by simp), pVal_some]
  have s04 := hf04.size
  have s03 := (hf1.trans (hf2.trans hf3)).size
  refine loop2_upR 0 x.1.nums.length (fun i u w' => ∃ bs, Fr w6 w' ∧ Bytes w' u bs ∧ Fresh w u ∧ bs.length ≤ b.length + 8 + 4 * i ∧ putNums (putM (putM b 1 1) x.1.epoch 4) x.1.nums = putNums bs (x.1.nums.drop i)) (by omega) ?_ ?_
  · exact ⟨_, Ch.refl _ _, hs4.fr hf56, fun c hc => by have := hr4 c hc; omega, by omega, rfl⟩
  rintro i u w7 ag hag _ hi ⟨bs, hf7, hu7, hfu7, hbl, heq⟩
  by_cases hlt : i < x.1.nums.length
  rotate_left
  · have hlt' : ¬ (i : Int) < (x.1.nums.length : Int) := by omega
    simp only [binV_lss, pVal_some, hlt', decide_false, pIf_bool, Bool.false_eq_true, if_false]
    rw [List.drop_of_length_le (by omega)] at heq
    rw [if_pos rfl, heq] at k
    exact k u w7 hu7 (hf06.trans hf7) hfu7
  have hlt' : (i : Int) < (x.1.nums.length : Int) := by omega
  simp only [binV_lss, pVal_some, hlt', decide_true, pIf_bool, if_true]
  refine Ints.get (hs6.fr hf7) hlt ?_
  refine Word_Put hu7 (by omega) fun v8 w8 hs8 hf8 hr8 => ?_
  simp only [binV_add, pVal_some, wrap_succ (i := i) (by omega)]
  have l8 := putM_length bs x.1.nums[i] 1
  refine hag (i + 1) v8 w8 (by omega) (by omega) ⟨_, hf7.trans hf8, hs8, fun c hc => by have := hr8 c hc; have := (hf06.trans hf7).size; omega, by omega, ?_⟩
  rw [heq, List.drop_eq_getElem_cons hlt]
  rfl
theorem Snap_Bytes {w : World} {l : LedM} {xs : List (TenM × Value)} {blocks pages : Int} {K : Value → World → Prop} (h : LedX w xs l) (hb0 : -1000000 ≤ blocks) (hb1 : blocks ≤ 1000000)
    (k : ∀ v w', Bytes w' v (l.bytes blocks pages).2 → Fr w w' → Fresh w v → K (.tuple #[v, i64 (l.bytes blocks pages).1]) w') : pCall P 163 [ledVal l xs, i64 blocks, i64 pages] K w := by
  refine c163 ?_
  unfold G163
  refine pNew_of (ledCells l.gen l.epochs xs) (by rfl) fun lb w1 hlb hlbl hf1 h1 => ?_
  refine pLdN (ledCells l.gen l.epochs xs) h1 lay_56 (by rw [ledCells_len h.len]; omega) (by rw [List.drop_zero, List.take_of_length_le (by rw [ledCells_len h.len]; omega)]) ?_
  refine Ledger_Check (h.fr hf1) hb0 hb1 fun w2 hf2 => ?_
  simp only [binV_eql, binV_neq, pVal_some, pIf_bool, decide_eq_true_eq, Bool.not_eq_true', decide_eq_false_iff_not]
  unfold LedM.bytes at k
  by_cases g : l.check blocks pages = 0
  rotate_left
  · rw [if_pos g]
    rw [if_pos g] at k
    exact k _ w2 (Bytes.nil _) (hf1.trans hf2) (Fresh.nil _)
  rw [if_neg (by simpa using g)]
  rw [if_neg (by simpa using g)] at k
  have h2 := hf2.blk h1 fun h => h
  have hf02 := hf1.trans hf2
  refine pDraw_fr (fun w' => Fr w2 w') fun w3 hf3 _ _ => ⟨hf3, ?_⟩
  try simp
  refine pHld1 (fun w' hS => hS.blk h2 fun h => h) lay_3 (v := i64 l.gen) rfl ?_
  refine pHld1 (fun w' hS => hS.blk h2 fun h => h) lay_3 (v := i64 l.epochs) rfl ?_
  refine Word_Put (Bytes.nil w3) (by simp) fun v4 w4 hs4 hf4 hr4 => ?_
  rw [pKeep_true]
  refine ⟨hf3.trans hf4, ?_⟩
  have l4 := putM_length [] l.gen 4
  refine Word_Put hs4 (by simp at l4; omega) fun v5 w5 hs5 hf5 hr5 => ?_
  try rw [pKeep_true]
  try refine ⟨(hf3.trans hf4).trans hf5, ?_⟩
  have l5 := putM_length (putM [] l.gen 4) l.epochs 4
  have hf25 := (hf3.trans hf4).trans hf5
  have hf05 := hf02.trans hf25
  try simp
  refine pLdN (xs.flatMap cTen) (hf25.blk h2 fun h => h) lay_54 (by rw [ledCells_len h.len]; omega) (tens_take h.len _ _) ?_
  simp at l4
  have s05 := hf05.size
  have s04 := (hf02.trans (hf3.trans hf4)).size
  refine loop2_upR 0 4 (fun i u w' => ∃ bs, Fr w5 w' ∧ Bytes w' u bs ∧ Fresh w u ∧ bs.length ≤ 8 + 4020 * i ∧ l.body = (l.tens.drop i).foldl TenM.put bs) (by omega) ?_ ?_
  · exact ⟨_, Ch.refl _ _, hs5, fun c hc => by have := hr5 c hc; omega, by omega, rfl⟩
  rintro i u w6 ag hag _ hi ⟨bs, hf6, hu6, hfu6, hbl, heq⟩
  have hwr : IntKind.i64.wrap ((i : Int) + 1) = ((i + 1 : Nat) : Int) := wrap_succ (by omega)
  by_cases hlt : i < 4
  rotate_left
  · have hlt' : ¬ (i : Int) < 4 := by omega
    simp [hlt']
    obtain rfl : i = 4 := by omega
    have hd : l.tens.drop 4 = [] := List.drop_of_length_le (by rw [← h.tens, List.length_map, h.len]; omega)
    rw [hd] at heq
    have heq : l.body = bs := heq
    refine Frame_Make hu6 (by omega) fun v7 w7 hs7 hf7 hr7 => ?_
    try simp
    rw [heq] at k
    exact k v7 w7 hs7 ((hf05.trans hf6).trans hf7) fun c hc => by have := hr7 c hc; have := (hf05.trans hf6).size; omega
  have hlt' : (i : Int) < 4 := by omega
  simp [hlt']
  obtain ⟨x, hx, hxm, htx, _⟩ := h.at hlt
  rw [checkTens_drop htx, List.foldl_cons] at heq
  refine pIndexA (tenVal x) und_54 lay_53 (by omega) (by omega) (by simpa using ten_at hx) ?_
  refine pAlloc_of (cTen (TenM.zero, .slice none 0 0)) zero_53 (by rfl) fun tb w7 htb htbl hf7 h7 => ?_
  refine pStN (cTen x) h7 lay_53 (by simp [tenVal]) (cTen_len x) (by rw [cTen_len]; omega) (cTen_one (h.mem x hxm)) fun w8 hc8 h8 => ?_
  have e8 : splice (cTen (TenM.zero, Value.slice none 0 0)) 0 (cTen x) = cTen x := rfl
  rw [e8] at h8
  have s6 := hf6.size; have s7 := hf7.size
  have hf58 : Fr w5 w8 := Ch.trans' (hf6.trans hf7) (by omega) hc8
  refine pLdN (cTen x) h8 lay_53 (by rw [cTen_len]; omega) rfl ?_
  have hxl := h.few x hxm
  refine Snap_tenant (x := x) ((hu6.fr hf7).ch hc8 fun c hc he => by have := hu6.live_lt hc; omega) (by omega) ((h.mem x hxm).fr (hf05.trans hf58)) hxl fun v9 w9 hs9 hf9 hr9 => ?_
  simp only [hwr]
  have l9 := TenM.put_length bs x.1
  refine hag (i + 1) v9 w9 (by omega) (by omega) ⟨_, hf58.trans hf9, hs9, fun c hc => by have := hr9 c hc; have := (hf05.trans hf58).size; omega, by omega, heq⟩
end Go.Al
