/- HouseNone: a nil house is down and has nothing; this text: part 7 of the proof, no condition. -/
import Derived.Test.YtaoepimoakcdaaaGreatAl6
namespace Go.Al
open Go Go.Proofs
structure TenRd where
  t : TenM
  r : RdM
structure NumsRd where
  l : List Int
  r : RdM
structure TensRd where
  l : List TenM
  r : RdM
def readNums : Nat → RdM → NumsRd
  | 0, r => ⟨[], r⟩
  | n + 1, r => ⟨((r.number 1).1 : Int) :: (readNums n (r.number 1).2).l, (readNums n (r.number 1).2).r⟩
def readTen (r : RdM) : TenRd :=
  let f := r.flag
  if f.1 = false then ⟨TenM.zero, f.2⟩ else
  let e := f.2.number 4
  let s := e.2.number 1
  let p := s.2.number 1
  let n := p.2.number 1
  ⟨⟨true, e.1, s.1, p.1, (readNums n.1 n.2).l⟩, (readNums n.1 n.2).r⟩
def readTens : Nat → RdM → TensRd
  | 0, r => ⟨[], r⟩
  | n + 1, r => ⟨(readTen r).t :: (readTens n (readTen r).r).l, (readTens n (readTen r).r).r⟩
theorem readTens_succ (n : Nat) (r : RdM) : readTens (n + 1) r = ⟨(readTen r).t :: (readTens n (readTen r).r).l, (readTens n (readTen r).r).r⟩ := rfl
theorem readNums_len : ∀ (n : Nat) (r : RdM), (readNums n r).l.length = n
  | 0, _ => rfl
  | n + 1, r => by simp [readNums, readNums_len n]
theorem number1_lt (r : RdM) : (r.number 1).1 < 256 := by
  unfold RdM.number RdM.next
  split
  · simp [unle]
  · split
    · simp [unle]
    · simp only
      match r.bs with
      | [] => simp [unle]
      | b :: bs => simp [unle]; exact b.toNat_lt
theorem readTen_few (r : RdM) : (readTen r).t.blocks.length ≤ 255 := by
  unfold readTen
  simp only
  split
  · simp [TenM.zero]
  · simp only [readNums_len]
    have := number1_lt (((r.flag.2.number 4).2.number 1).2.number 1).2
    omega
theorem ten_res {w : World} {rb : Nat} {x : TenM × Value} {K : Value → World → Prop} (h : Blk w rb 53 (cTen x)) (hx : Ints w x.2 x.1.blocks)
    (k : ∀ w', Ch (· = rb) w w' → K (tenVal x) w') : (pLd P 53 (ptr rb 0) fun v => pSt P 53 (ptr rb 0) v <| pRes P 53 (ptr rb 0) K) w := by
  refine pLdN (cTen x) h lay_53 (by rw [cTen_len]; omega) rfl ?_
  refine pStN (cTen x) h lay_53 rfl (cTen_len x) (by rw [cTen_len]; omega) (cTen_one hx) fun w8 hc8 h8 => ?_
  have e8 : splice (cTen x) 0 (cTen x) = cTen x := rfl
  rw [e8] at h8
  exact pResN h8 lay_53 (cTen_len x) (k w8 hc8)
theorem Snap_read {w : World} {pb : Nat} {r : RdM} {K : Value → World → Prop} (h : RdR w pb r)
    (k : ∀ w' v, Ch (· = pb) w w' → RdR w' pb (readTen r).r → Ints w' v (readTen r).t.blocks → Fresh w v → K (tenVal ((readTen r).t, v)) w') : pCall P 209 [ptr pb 0] K w := by
  refine c209 ?_
  unfold G209
  refine pAlloc_of (cTen (TenM.zero, .slice none 0 0)) zero_53 (by rfl) fun tb w1 htb htbl hf1 h1 => ?_
  have hlt : pb < tb := by obtain ⟨_, q, _⟩ := h; have := q.lt; omega
  have np : ∀ {wa wc : World} {l : List Value}, Ch (· = pb) wa wc → Blk wa tb 53 l → Blk wc tb 53 l := fun hc hb => hc.blk hb (by omega)
  have nr : ∀ {wa wc : World} {r : RdM}, Ch (· = tb) wa wc → RdR wa pb r → RdR wc pb r := fun hc hr => hr.ch hc (by omega) fun c hc he => by omega
  have n0 : ∀ {wa wc : World}, Ch (· = pb) w wa → Ch (· = pb) wa wc → Ch (· = pb) w wc := fun hf hc => hf.trans hc fun _ _ h => h
  have n2 : ∀ {wa wc : World}, Ch (· = pb) w wa → Ch (· = tb) wa wc → Ch (· = pb) w wc := fun hf hc => Ch.trans' hf (by omega) hc
  have hc01 : Ch (· = pb) w w1 := hf1.mono fun _ _ h => h.elim
  refine Reader_Flag (h.fr hf1) fun w2 hc2 h2 => ?_
  try simp
  refine pSt1 (np hc2 h1) lay_4 rfl rfl (by simp [cTen]) fun w3 hc3 h3 => ?_
  refine pLd1 h3 lay_4 (v := .bool r.flag.1) rfl ?_
  have hr3 := nr hc3 h2
  have hc03 := n2 (n0 hc01 hc2) hc3
  unfold readTen at k
  try simp
  cases hfl : r.flag.1
  · simp only [hfl, if_true] at k
    simp
    have h3' : Blk w3 tb 53 (cTen (TenM.zero, .slice none 0 0)) := by rw [hfl] at h3; exact h3
    refine ten_res h3' (Sl.nil _ cI_len) fun w4 hc4 => ?_
    exact k w4 _ (n2 hc03 hc4) (nr hc4 hr3) (Sl.nil _ cI_len) (Fresh.nil _)
  simp only [hfl, Bool.true_eq_false, if_false] at k
  simp
  refine Reader_Number (n := 4) hr3 (by omega) fun w4 hc4 h4 => ?_
  try simp
  refine pSt1 (np hc4 h3) lay_3 rfl rfl (by simp [cTen]) fun w5 hc5 h5 => ?_
  refine Reader_Number (n := 1) (nr hc5 h4) (by omega) fun w6 hc6 h6 => ?_
  refine Reader_Number (n := 1) h6 (by omega) fun w7 hc7 h7 => ?_
  try simp
  refine pSt1 (np hc7 (np hc6 h5)) lay_3 rfl rfl (by simp [cTen]) fun w8 hc8 h8 => ?_
  try simp
  refine pSt1 h8 lay_3 rfl rfl (by simp [cTen]) fun w9 hc9 h9 => ?_
  refine Reader_Number (n := 1) (nr hc9 (nr hc8 h7)) (by omega) fun w10 hc10 h10 => ?_
  have hc010 := n0 (n2 (n2 (n0 (n0 (n2 (n0 hc03 hc4) hc5) hc6) hc7) hc8) hc9) hc10
  have hb10 := np hc10 h9
  generalize hE : r.flag.2.number 4 = E at *
  generalize hS : E.2.number 1 = S at *
  generalize hPp : S.2.number 1 = Pp at *
  have hN1 : (Pp.2.number 1).1 < 256 := number1_lt _
  generalize hN : Pp.2.number 1 = N at *
  have hb10 : Blk w10 tb 53 (cTen (⟨true, E.1, S.1, Pp.1, []⟩, .slice none 0 0)) := by rw [hfl] at hb10; exact hb10
  have s1 := hf1.size
  refine loop1_up N.1 (fun i w' => ∃ got v r', w1.heap.size ≤ w'.heap.size ∧ Ch (· = pb) w w' ∧ RdR w' pb r' ∧ Blk w' tb 53 (cTen (⟨true, E.1, S.1, Pp.1, got⟩, v)) ∧ Ints w' v got ∧ Fresh w1 v ∧ got.length = i ∧
    (readNums N.1 N.2).l = got ++ (readNums (N.1 - i) r').l ∧ (readNums N.1 N.2).r = (readNums (N.1 - i) r').r) ?_ ?_
  · exact ⟨[], .slice none 0 0, N.2, Nat.le_trans hc2.size (Nat.le_trans hc3.size (Nat.le_trans hc4.size (Nat.le_trans hc5.size (Nat.le_trans hc6.size (Nat.le_trans hc7.size (Nat.le_trans hc8.size (Nat.le_trans hc9.size hc10.size))))))), hc010, h10, hb10, Sl.nil _ cI_len, Fresh.nil _, rfl, rfl, rfl⟩
  rintro i w11 ag hag hi ⟨got, v, r', hz11, hc11, hr11, hb11, hv11, hfv, hgl, heq1, heq2⟩
  have hwr : IntKind.i64.wrap ((i : Int) + 1) = ((i + 1 : Nat) : Int) := wrap_succ (by omega)
  by_cases hil : i < N.1
  rotate_left
  · have hil' : ¬ (i : Int) < (N.1 : Int) := by omega
    simp only [binV_lss, pVal_some, hil', decide_false, pIf_bool, Bool.false_eq_true, if_false]
    have e0 : N.1 - i = 0 := by omega
    rw [e0] at heq1 heq2
    simp only [readNums, List.append_nil] at heq1 heq2
    rw [heq1, heq2] at k
    have hvt : ∀ c, live v = some c → c ≠ tb := fun c hc => by have := hfv c hc; omega
    refine ten_res hb11 hv11 fun w12 hc12 => ?_
    exact k w12 v (n2 hc11 hc12) (nr hc12 hr11) (hv11.ch hc12 fun c hc he => hvt c hc he) fun c hc => by have := hfv c hc; omega
  have hil' : (i : Int) < (N.1 : Int) := by omega
  simp only [binV_lss, pVal_some, hil', decide_true, pIf_bool, if_true]
  obtain ⟨m, hm⟩ : ∃ m, N.1 - i = m + 1 := ⟨N.1 - i - 1, by omega⟩
  have hm2 : N.1 - (i + 1) = m := by omega
  rw [hm, readNums] at heq1 heq2
  simp only at heq1 heq2
  have hvtb : ∀ c, live v = some c → tb < c := fun c hc => by have := hfv c hc; omega
  refine pDraw_fr (fun w' => Blk w' tb 53 (cTen (⟨true, E.1, S.1, Pp.1, got⟩, v))) fun w12 hf12 _ _ => ⟨hf12.blk hb11 fun h => h, ?_⟩
  try simp
  refine pHld1 (fun w' hS => hS) lay_24 (v := v) rfl ?_
  refine Reader_Number (n := 1) (hr11.fr hf12) (by omega) fun w13 hc13 h13 => ?_
  have hb13 := np hc13 (hf12.blk hb11 fun h => h)
  have hv13 : Ints w13 v got := (hv11.fr hf12).ch hc13 fun c hc he => by have := hvtb c hc; omega
  have hc013 := n0 (hc11.trans hf12 fun _ _ h => h.elim) hc13
  rw [pKeep_true]
  refine ⟨hb13, ?_⟩
  refine pRowN [((r'.number 1).1 : Int)] sli_int cI_len rfl (by omega) (rowV_int _ trivial) fun rv w14 hs14 hf14 hr14 => ?_
  try rw [pKeep_true]
  try refine ⟨hf14.blk hb13 fun h => h, ?_⟩
  refine pAppend sli_int (hv13.fr hf14) hs14 cI_one (by simp; omega) (by omega) fun v' w15 hs15 hc15 hl15 => ?_
  have s14 := hf14.size
  have s013 := hc013.size
  have htb13 := hb13.lt
  have hb15 := hc15.blk (hf14.blk hb13 fun h => h) (fun e => by have := hvtb _ e; omega)
  have hr15 : RdR w15 pb (r'.number 1).2 := (h13.fr hf14).ch hc15 (fun e => by have := hvtb _ e; omega) fun c hc e => by have := hvtb _ e; omega
  have hc015 : Ch (· = pb) w w15 := Ch.trans (hc013.trans hf14 fun _ _ h => h.elim) hc15 fun b hb e => by have := hvtb _ e; omega
  try simp
  refine pSt1 hb15 lay_24 hs15.cell1 hs15.one (by simp [cTen]) fun w16 hc16 h16 => ?_
  try simp only [binV_add, pVal_some, hwr]
  have hv' : ∀ c, live v' = some c → tb < c ∧ w1.heap.size ≤ c := fun c hc => by
    rcases hl15 with e | ⟨c', e, hle⟩
    · rw [e] at hc; exact ⟨hvtb c hc, hfv c hc⟩
    · rw [hc] at e; cases e
      have := hf12.size; have := hc13.size
      have := hb13.lt
      exact ⟨by omega, by omega⟩
  refine hag (i + 1) w16 (by omega) (by omega) ⟨got ++ [((r'.number 1).1 : Int)], v', (r'.number 1).2, (by have := hf12.size; have := hc13.size; have := hf14.size; have := hc15.size; have := hc16.size; omega), n2 hc015 hc16, nr hc16 hr15, h16, hs15.ch hc16 fun c hc he => by have := hv' c hc; omega, fun c hc => (hv' c hc).2, by simp; omega, ?_, ?_⟩
  · rw [heq1, hm2]; simp
  · rw [heq2, hm2]
def snapParse (b : List UInt8) (blocks pages : Int) : Int × LedM :=
  if (frameWhole b 76).1 ≠ 0 then ((frameWhole b 76).1, LedM.zero) else
  let g := (⟨(frameWhole b 76).2, 0⟩ : RdM).number 4
  let e := g.2.number 4
  let ts := readTens 4 e.2
  if ts.r.done.e ≠ 0 then (ts.r.done.e, LedM.zero) else
  if (⟨g.1, e.1, ts.l⟩ : LedM).check blocks pages ≠ 0 then ((⟨g.1, e.1, ts.l⟩ : LedM).check blocks pages, LedM.zero) else (0, ⟨g.1, e.1, ts.l⟩)
theorem Snap_Parse {w : World} {v : Value} {b : List UInt8} {blocks pages : Int} {K : Value → World → Prop} (h : Bytes w v b) (h63 : b.length ≤ 1000000) (hb0 : -1000000 ≤ blocks) (hb1 : blocks ≤ 1000000)
    (k : ∀ w' ys, Fr w w' → LedX w' ys (snapParse b blocks pages).2 → (∀ x ∈ ys, Fresh w x.2) → K (.tuple #[ledVal (snapParse b blocks pages).2 ys, i64 (snapParse b blocks pages).1]) w') : pCall P 172 [v, i64 blocks, i64 pages] K w := by
  refine c172 ?_
  unfold G172
  refine pAlloc_of (ledCells 0 0 ledZs) zero_56 (by rfl) fun rb w1 hrb hrbl hf1 h1 => ?_
  refine Frame_Whole (kind := 76) (h.fr hf1) h63 fun v2 w2 hs2 hf2 hr2 => ?_
  have hlen := frameWhole_len b 76
  have h2 := hf2.blk h1 fun h => h
  have hf02 := hf1.trans hf2
  unfold snapParse at k
  simp only [extractV_tuple, List.getElem?_toArray, List.getElem?_cons_zero, List.getElem?_cons_succ, pVal_some, binV_neq, pIf_bool, Bool.not_eq_true', decide_eq_false_iff_not]
  have zfresh : ∀ x ∈ ledZs, Fresh w x.2 := fun x hx => by rw [List.eq_of_mem_replicate hx]; exact Fresh.nil _
  by_cases g : (frameWhole b 76).1 = 0
  rotate_left
  · rw [if_pos g]
    rw [if_pos g] at k
    refine led_err h2 (ledCells_len rfl _ _) fun w3 hc3 => ?_
    exact k w3 ledZs (Ch.trans' hf02 (by omega) hc3) (ledZs_x _) zfresh
  rw [if_neg (by simpa using g)]
  rw [if_neg (by simpa using g)] at k
  dsimp only at k
  refine Word_Read hs2 (by omega) fun pb w3 hpb hf3 h3 => ?_
  refine pAlloc_of (ledCells 0 0 ledZs) zero_56 (by rfl) fun lb w4 hlb hlbl hf4 h4 => ?_
  have hlt : pb < lb := by obtain ⟨_, q, _⟩ := h3; have := q.lt; omega
  have hrp : rb < pb := by have := h2.lt; omega
  have nr : ∀ {wa wc : World} {r : RdM}, Ch (· = lb) wa wc → RdR wa pb r → RdR wc pb r := fun hc hr => hr.ch hc (by omega) fun c hc he => by omega
  have s02 := hf02.size
  have n0 : ∀ {wa wc : World}, Fr w wa → Ch (· = pb) wa wc → Fr w wc := fun hf hc => Ch.trans' hf (by omega) hc
  have n2 : ∀ {wa wc : World}, Fr w wa → Ch (· = lb) wa wc → Fr w wc := fun hf hc => Ch.trans' hf (by omega) hc
  have hw4 : Fr w w4 := (hf02.trans hf3).trans hf4
  have hrb4 := hf4.blk (hf3.blk h2 fun h => h) fun h => h
  generalize (frameWhole b 76).2 = body at *
  refine Reader_Number (n := 4) (h3.fr hf4) (by omega) fun w5 hc5 h5 => ?_
  refine Reader_Number (n := 4) h5 (by omega) fun w6 hc6 h6 => ?_
  try simp
  generalize hG : (⟨body, 0⟩ : RdM).number 4 = G at *
  generalize hE : G.2.number 4 = E at *
  refine pSt1 (hc6.blk (hc5.blk h4 (by omega)) (by omega)) lay_3 rfl rfl (by rw [ledCells_len rfl]; omega) fun w7 hc7 h7 => ?_
  try simp
  refine pSt1 h7 lay_3 rfl rfl (by rw [List.length_set, ledCells_len rfl]; omega) fun w8 hc8 h8 => ?_
  have hw8 := n2 (n2 (n0 (n0 hw4 hc5) hc6) hc7) hc8
  have h8' : Blk w8 lb 56 (ledCells G.1 E.1 ledZs) := h8
  have hrb8 := hc8.blk (hc7.blk (hc6.blk (hc5.blk hrb4 (by omega)) (by omega)) (by omega)) (by omega)
  have hr8 := nr hc8 (nr hc7 h6)
  refine loop1_up 4 (fun i w' => ∃ zs got r', w4.heap.size ≤ w'.heap.size ∧ Fr w w' ∧ RdR w' pb r' ∧ Blk w' lb 56 (ledCells G.1 E.1 zs) ∧ Blk w' rb 56 (ledCells 0 0 ledZs) ∧ LedX w' zs ⟨G.1, E.1, zs.map (·.1)⟩ ∧ (∀ x ∈ zs, Fresh w4 x.2) ∧
    zs.map (·.1) = got ++ List.replicate (4 - i) TenM.zero ∧ got.length = i ∧ (readTens 4 E.2).l = got ++ (readTens (4 - i) r').l ∧ (readTens 4 E.2).r = (readTens (4 - i) r').r) ?_ ?_
  · exact ⟨ledZs, [], E.2, Nat.le_trans hc5.size (Nat.le_trans hc6.size (Nat.le_trans hc7.size hc8.size)), hw8, hr8, h8', hrb8, ⟨rfl, rfl, (ledZs_x _).mem, (ledZs_x w).few⟩, (fun x hx => by rw [List.eq_of_mem_replicate hx]; exact Fresh.nil _), rfl, rfl, rfl, rfl⟩
  rintro i w9 ag hag hi ⟨zs, got, r', hz9, hf9, hr9, hb9, hrb9, hx9, hfz, hzs, hgl, heq1, heq2⟩
  have hwr : IntKind.i64.wrap ((i : Int) + 1) = ((i + 1 : Nat) : Int) := wrap_succ (by omega)
  have hltb : lb < w4.heap.size := hlbl
  by_cases hlt4 : i < 4
  · have hlt' : (i : Int) < 4 := by omega
    simp [hlt']
    refine Snap_read hr9 fun w10 v10 hc10 hr10 hv10 hfr10 => ?_
    obtain ⟨m, hm⟩ : ∃ m, 4 - i = m + 1 := ⟨4 - i - 1, by omega⟩
    have hm2 : 4 - (i + 1) = m := by omega
    rw [hm, readTens_succ m r'] at heq1 heq2
    simp only at heq1 heq2
    refine pStN (cTen ((readTen r').t, v10)) (hc10.blk hb9 (by omega)) lay_53 (by simp [tenVal]) (cTen_len _) (by rw [ledCells_len hx9.len]; omega) (cTen_one (x := ((readTen r').t, v10)) hv10) fun w11 hc11 h11 => ?_
    rw [led_splice (by rw [hx9.len]; exact hlt4)] at h11
    try simp only [binV_add, pVal_some, hwr]
    have hfl : ∀ x ∈ zs, ∀ c, live x.2 = some c → w4.heap.size ≤ c := fun x hx c hc => hfz x hx c hc
    have s10 := hc10.size
    have s11 := hc11.size
    have hv10l : ∀ c, live v10 = some c → w4.heap.size ≤ c := fun c hc => by have := hfr10 c hc; omega
    have hx11 := LedX.set (i := i) (y := ((readTen r').t, v10)) ((hx9.ch hc10 fun x hx c hc he => by have := hfl x hx c hc; omega).ch hc11 fun x hx c hc he => by have := hfl x hx c hc; omega) (hv10.ch hc11 fun c hc he => by have := hv10l c hc; omega) (by have := readTen_few r'; simp; omega) G.1 E.1
    refine hag (i + 1) w11 (by omega) (by omega) ⟨zs.set i ((readTen r').t, v10), got ++ [(readTen r').t], (readTen r').r, by omega, n2 (n0 hf9 hc10) hc11, nr hc11 hr10, h11, hc11.blk (hc10.blk hrb9 (by omega)) (by omega), ?_, ?_, ?_, by simp; omega, ?_, ?_⟩
    · refine ⟨rfl, by simpa using hx9.len, hx11.mem, hx11.few⟩
    · intro x hx
      rcases List.mem_or_eq_of_mem_set hx with hx | rfl
      · exact hfz x hx
      · exact hv10l
    · rw [List.map_set, hzs, hm, hm2, List.set_append_right _ _ (by omega), hgl]
      simp [List.replicate_succ]
    · rw [heq1, hm2]; simp
    · rw [heq2, hm2]
  have hlt' : ¬ (i : Int) < 4 := by omega
  simp [hlt']
  obtain rfl : i = 4 := by omega
  have hzs' : zs.map (·.1) = got := by rw [hzs]; simp
  have e1 : (readTens 4 E.2).l = got := by rw [heq1]; simp [readTens]
  have e2 : (readTens 4 E.2).r = r' := by rw [heq2]; simp [readTens]
  rw [e1, e2] at k
  rw [hzs'] at hx9
  refine Reader_Done hr9 fun w10 hc10 h10 => ?_
  have hf10 := n0 hf9 hc10
  have hrb10 := hc10.blk hrb9 (by omega)
  have hb10 := hc10.blk hb9 (by omega)
  have hx10 := hx9.ch hc10 fun x hx c hc he => by have := hfz x hx c hc; omega
  simp only [binV_eql, binV_neq, pVal_some, pIf_bool, decide_eq_true_eq, Bool.not_eq_true', decide_eq_false_iff_not]
  by_cases gd : r'.done.e = 0
  rotate_left
  · rw [if_pos gd]
    rw [if_pos gd] at k
    refine led_err hrb10 (ledCells_len rfl _ _) fun w11 hc11 => ?_
    exact k w11 ledZs (Ch.trans' hf10 (by omega) hc11) (ledZs_x _) zfresh
  rw [if_neg (by simpa using gd)]
  rw [if_neg (by simpa using gd)] at k
  refine pLdN (ledCells G.1 E.1 zs) hb10 lay_56 (by rw [ledCells_len hx9.len]; omega) (by rw [List.drop_zero, List.take_of_length_le (by rw [ledCells_len hx9.len]; omega)]) ?_
  refine Ledger_Check hx10 hb0 hb1 fun w11 hf11 => ?_
  simp only [binV_eql, binV_neq, pVal_some, pIf_bool, decide_eq_true_eq, Bool.not_eq_true', decide_eq_false_iff_not]
  by_cases gc : (⟨G.1, E.1, got⟩ : LedM).check blocks pages = 0
  rotate_left
  · rw [if_pos gc]
    rw [if_pos gc] at k
    refine led_err (hf11.blk hrb10 fun h => h) (ledCells_len rfl _ _) fun w12 hc12 => ?_
    exact k w12 ledZs (Ch.trans' (hf10.trans hf11) (by omega) hc12) (ledZs_x _) zfresh
  rw [if_neg (by simpa using gc)]
  rw [if_neg (by simpa using gc)] at k
  refine pLdN (ledCells G.1 E.1 zs) (hf11.blk hb10 fun h => h) lay_56 (by rw [ledCells_len hx9.len]; omega) (by rw [List.drop_zero, List.take_of_length_le (by rw [ledCells_len hx9.len]; omega)]) ?_
  refine led_res (l := ⟨G.1, E.1, got⟩) (hf11.blk hrb10 fun h => h) (ledCells_len rfl _ _) (hx10.fr hf11) fun w12 hc12 => ?_
  exact k w12 zs (Ch.trans' (hf10.trans hf11) (by omega) hc12) ((hx10.fr hf11).ch hc12 fun x hx c hc he => by have := hfz x hx c hc; omega) fun x hx c hc => by have := hfz x hx c hc; have := hw4.size; omega
end Go.Al

namespace Go.Al
open Go Go.Proofs
structure NewM where
  l : LedM
  block : Int
  there : Bool
def NewM.zero : NewM := ⟨LedM.zero, 0, false⟩
def newCells (o : NewM) (xs : List (TenM × Value)) : List Value := ledCells o.l.gen o.l.epochs xs ++ [i64 o.block, .bool o.there]
def newVal (o : NewM) (xs : List (TenM × Value)) : Value := .agg (newCells o xs).toArray
theorem newCells_len {xs : List (TenM × Value)} (h : xs.length = 4) (o : NewM) : (newCells o xs).length = 24 := by
  unfold newCells; rw [List.length_append, ledCells_len h]; rfl
theorem newCells_one {w : World} {xs : List (TenM × Value)} {o : NewM} (h : LedX w xs o.l) : (newCells o xs).all (·.oneCell') = true := by
  unfold newCells; rw [List.all_append, Bool.and_eq_true]; exact ⟨ledCells_one h _ _, rfl⟩
theorem newCells_tail {xs : List (TenM × Value)} (h : xs.length = 4) (o : NewM) : (newCells o xs)[22]? = some (i64 o.block) ∧ (newCells o xs)[23]? = some (.bool o.there) := by
  have hl := ledCells_len h o.l.gen o.l.epochs
  unfold newCells
  constructor
  · rw [List.getElem?_append_right (by omega), hl]; rfl
  · rw [List.getElem?_append_right (by omega), hl]; rfl
/-- A page is looked at (none: the power is gone). -/
def adStep (a : ArrM) (b : Nat) (o : NewM) (i : Nat) : Option NewM :=
  if (a.read b i).1 = 12 then none else
  if (a.read b i).1 ≠ 0 then some o else
  if (snapParse (a.read b i).2.2 a.bl.length a.g.pages).1 = 0 ∧ (o.there = false ∨ o.l.gen < (snapParse (a.read b i).2.2 a.bl.length a.g.pages).2.gen) then some ⟨(snapParse (a.read b i).2.2 a.bl.length a.g.pages).2, b, true⟩ else some o
def adRow (a : ArrM) (b : Nat) : List Nat → NewM → Option NewM
  | [], o => some o
  | i :: is, o => match adStep a b o i with
    | none => none
    | some o' => adRow a b is o'
def adRows (a : ArrM) : List Nat → NewM → Option NewM
  | [], o => some o
  | b :: bs, o => match adRow a b (List.range a.g.pages.toNat) o with
    | none => none
    | some o' => adRows a bs o'
def adFind (a : ArrM) : Option NewM := adRows a (List.range 2) NewM.zero
theorem range_drop {n i : Nat} (h : i < n) : (List.range n).drop i = i :: (List.range n).drop (i + 1) := by
  rw [List.drop_eq_getElem_cons (by simpa using h)]
  simp
theorem und_string : P.underlying 9 = some .string := by kernel_rfl
theorem und_bytes : P.underlying 227 = some (.slice 5) := by kernel_rfl
theorem und_byte : P.underlying 5 = some (.int .u8) := by kernel_rfl
theorem cB_eq (b : UInt8) : cB b = [.int .u8 b.toNat] := rfl
theorem new_build0 : buildV P 200 [] = some (newVal NewM.zero ledZs) := by kernel_rfl
theorem zero_new : zeroP P 200 = some (newVal NewM.zero ledZs) := by kernel_rfl
theorem newMain (o : NewM) (xs : List (TenM × Value)) (h : xs.length = 4) : buildV P 200 [(0, ledVal o.l xs), (1, i64 o.block), (2, .bool o.there)] = some (newVal o xs) := by
  match xs, h with
  | [a, b, c, d], _ => simp [buildV_app, fillL, fillA, splice, ledVal, ledCells, newVal, newCells, cTen]
theorem geo_pages (g : Geo) : fieldOfV P 23 g.val 3 = some (i64 g.pages) := by
  simp [fieldOfV, partV, Geo.val, Geo.cells]
theorem read_len {a : ArrM} (ok : a.ok) (b i : Int) : (a.read b i).2.2.length ≤ 160 ∧ (a.read b i).2.1.length ≤ 32 := by
  unfold ArrM.read
  split
  · simp
  · rename_i x hx
    split
    · simp
    · split
      · simp
      · split
        · simp
        · rename_i p hp
          have hxm : x ∈ a.bl := by
            unfold ArrM.blk at hx
            split at hx
            · cases hx
            · exact List.mem_of_getElem? hx
          have := (ok.block x hxm).2.2 p (List.mem_of_getElem? hp)
          split
          · exact ⟨this.2, this.1⟩
          · split <;> simp
theorem new_res {w : World} {rb : Nat} {l0 : List Value} {o : NewM} {xs : List (TenM × Value)} {K : Value → World → Prop} (h : Blk w rb 200 l0) (hl : l0.length = 24) (hx : LedX w xs o.l)
    (k : ∀ w', Ch (· = rb) w w' → K (newVal o xs) w') : (pSt P 200 (ptr rb 0) (newVal o xs) <| pRes P 200 (ptr rb 0) K) w := by
  refine pStN (newCells o xs) h lay_200 rfl (newCells_len hx.len _) (by omega) (newCells_one hx) fun w4 hc4 h4 => ?_
  have e : splice l0 0 (newCells o xs) = newCells o xs := by
    unfold splice
    rw [List.take_zero, List.nil_append, List.drop_of_length_le (by rw [newCells_len hx.len]; omega), List.append_nil]
  rw [e] at h4
  exact pResN h4 lay_200 (newCells_len hx.len _) (k w4 hc4)
theorem Adlog_find {w : World} {γ : Col} {A : ArrA} {a : ArrM} {K : Value → World → Prop} (hw : Wf w γ) (h : ArrR w γ A a) (hp : a.g.pages ≤ 16)
    (k0 : ∀ w', Fr w w' → adFind a = none → K (.tuple #[newVal NewM.zero ledZs, i64 12]) w')
    (k : ∀ w' o xs, Fr w w' → adFind a = some o → LedX w' xs o.l → (∀ x ∈ xs, Fresh w x.2) → K (.tuple #[newVal o xs, i64 0]) w') : pCall P 148 [ptr A.n 0] K w := by
  refine c148 ?_
  unfold G148
  refine pAlloc_of (newCells NewM.zero ledZs) zero_new rfl fun rb w1 hrb hrbl hf1 h1 => ?_
  refine pAlloc_of (newCells NewM.zero ledZs) zero_new rfl fun ob w2 hob hobl hf2 h2 => ?_
  have s1 := hf1.size
  refine Nand_Geometry ((h.fr hw hf1).fr (hf1.keep (C := fun _ => False) hw).wf hf2) fun w3 hf3 => ?_
  have hf03 := (hf1.trans hf2).trans hf3
  have hrb3 := hf3.blk (hf2.blk h1 fun h => h) fun h => h
  have hob3 := hf3.blk h2 fun h => h
  rw [geo_pages, pVal_some]
  have zfresh : ∀ x ∈ ledZs, Fresh w x.2 := fun x hx => by rw [List.eq_of_mem_replicate hx]; exact Fresh.nil _
  have hwf : ∀ {w'}, Fr w w' → Wf w' γ := fun hf => (hf.keep (C := fun _ => False) hw).wf
  have hlenb : a.bl.length ≤ 64 := h.ok.blocks
  refine loop1_up 2 (fun b w' => ∃ o xs, Fr w w' ∧ Blk w' rb 200 (newCells NewM.zero ledZs) ∧ Blk w' ob 200 (newCells o xs) ∧ LedX w' xs o.l ∧ (∀ x ∈ xs, Fresh w x.2) ∧ (∀ x ∈ xs, ∀ c, live x.2 = some c → c ≠ rb ∧ c ≠ ob) ∧
    adFind a = adRows a ((List.range 2).drop b) o) ?_ ?_
  · exact ⟨NewM.zero, ledZs, hf03, hrb3, hob3, ledZs_x _, zfresh, (fun x hx c hc => by rw [List.eq_of_mem_replicate hx] at hc; cases hc), rfl⟩
  rintro b w4 ag hag hb ⟨o, xs, hf4, hrb4, hob4, hx4, hfr4, hne4, heq⟩
  have hwb : IntKind.i64.wrap ((b : Int) + 1) = ((b + 1 : Nat) : Int) := wrap_succ (by omega)
  by_cases hlt : b < 2
  rotate_left
  · have hlt' : ¬ (b : Int) < 2 := by omega
    simp [hlt']
    obtain rfl : b = 2 := by omega
    have hd : (List.range 2).drop 2 = [] := rfl
    rw [hd, adRows] at heq
    refine pLdN (newCells o xs) hob4 lay_200 (by rw [newCells_len hx4.len]; omega) (by rw [List.drop_zero, List.take_of_length_le (by rw [newCells_len hx4.len]; omega)]) ?_
    refine new_res hrb4 (newCells_len rfl _) hx4 fun w5 hc5 => ?_
    exact k w5 o xs (Ch.trans' hf4 (by omega) hc5) heq (hx4.ch hc5 fun x hx c hc he => (hne4 x hx c hc).1 he) hfr4
  have hlt' : (b : Int) < 2 := by omega
  simp [hlt']
  rw [range_drop hlt, adRows] at heq
  refine loop1_up a.g.pages.toNat (fun i w' => ∃ o xs, Fr w w' ∧ Blk w' rb 200 (newCells NewM.zero ledZs) ∧ Blk w' ob 200 (newCells o xs) ∧ LedX w' xs o.l ∧ (∀ x ∈ xs, Fresh w x.2) ∧ (∀ x ∈ xs, ∀ c, live x.2 = some c → c ≠ rb ∧ c ≠ ob) ∧
    adFind a = match adRow a b ((List.range a.g.pages.toNat).drop i) o with | none => none | some o' => adRows a ((List.range 2).drop (b + 1)) o') ?_ ?_
  · exact ⟨o, xs, hf4, hrb4, hob4, hx4, hfr4, hne4, heq⟩
  clear heq hx4 hfr4 hne4 hob4 hrb4
  rintro i w5 ag2 hag2 hi ⟨o, xs, hf5, hrb5, hob5, hx5, hfr5, hne5, heq⟩
  have hwi : IntKind.i64.wrap ((i : Int) + 1) = ((i + 1 : Nat) : Int) := wrap_succ (by omega)
  by_cases hil : i < a.g.pages.toNat
  rotate_left
  · have hil' : ¬ (i : Int) < a.g.pages := by omega
    simp only [binV_lss, pVal_some, hil', decide_false, pIf_bool, Bool.false_eq_true, if_false, binV_add, hwb]
    rw [List.drop_of_length_le (by simp; omega), adRow] at heq
    exact hag (b + 1) w5 (by omega) (by omega) ⟨o, xs, hf5, hrb5, hob5, hx5, hfr5, hne5, heq⟩
  have hil' : (i : Int) < a.g.pages := by omega
  simp only [binV_lss, pVal_some, hil', decide_true, pIf_bool, if_true]
  rw [range_drop hil, adRow] at heq
  have h5 := h.fr hw hf5
  refine Nand_Read (hwf hf5) h5 fun w6 v6 hf6 hs6 hr6 => ?_
  have hrl := read_len h.ok b i
  simp only [extractV_tuple, List.getElem?_toArray, List.getElem?_cons_zero, List.getElem?_cons_succ, pVal_some, binV_eql, binV_neq, pIf_bool, Bool.not_eq_true', decide_eq_false_iff_not, decide_eq_true_eq, binV_add, hwi]
  obtain ⟨q, hq⟩ : ∃ q, q = a.read b i := ⟨_, rfl⟩
  unfold adStep at heq
  rw [← hq] at heq hrl ⊢
  have hf06 := hf5.trans hf6
  by_cases g12 : q.1 = 12
  · rw [if_pos g12]
    rw [if_pos g12] at heq
    rw [new_build0, pVal_some]
    refine new_res (hf6.blk hrb5 fun h => h) (newCells_len rfl _) (ledZs_x _) fun w7 hc7 => ?_
    rw [g12]
    exact k0 w7 (Ch.trans' hf06 (by omega) hc7) heq
  rw [if_neg g12]
  rw [if_neg g12] at heq
  by_cases g0 : q.1 = 0
  rotate_left
  · rw [if_pos g0]
    rw [if_pos g0] at heq
    exact hag2 (i + 1) w6 (by omega) (by omega) ⟨o, xs, hf06, hf6.blk hrb5 fun h => h, hf6.blk hob5 fun h => h, hx5.fr hf6, hfr5, hne5, heq⟩
  rw [if_neg (by simpa using g0)]
  rw [if_neg (by simpa using g0)] at heq
  refine pBytesOf und_string und_bytes und_byte cB_eq (by omega) fun v7 w7 hs7 hf7 hr7 => ?_
  have hf07 := hf06.trans hf7
  refine Nand_Blocks (h.fr hw hf07) ?_
  refine Snap_Parse hs7 (by omega) (by omega) (by omega) fun w8 ys hf8 hy8 hfy8 => ?_
  have hf08 := hf07.trans hf8
  have hf58 := (hf6.trans hf7).trans hf8
  obtain ⟨p, hpp⟩ : ∃ p, p = snapParse q.2.2 a.bl.length a.g.pages := ⟨_, rfl⟩
  rw [← hpp] at heq hy8 ⊢
  simp only [extractV_tuple, List.getElem?_toArray, List.getElem?_cons_zero, List.getElem?_cons_succ, pVal_some, binV_eql, binV_neq, pIf_bool, Bool.not_eq_true', decide_eq_false_iff_not, decide_eq_true_eq, binV_add, hwi]
  refine pAlloc_of (ledCells 0 0 ledZs) zero_56 (by rfl) fun lb w9 hlb hlbl hf9 h9 => ?_
  have s08 := hf08.size
  refine pStN (ledCells p.2.gen p.2.epochs ys) h9 lay_56 rfl (ledCells_len hy8.len _ _) (by rw [ledCells_len rfl]; omega) (ledCells_one hy8 _ _) fun w10 hc10 h10 => ?_
  have e10 : splice (ledCells 0 0 ledZs) 0 (ledCells p.2.gen p.2.epochs ys) = ledCells p.2.gen p.2.epochs ys := by
    unfold splice
    rw [List.take_zero, List.nil_append, List.drop_of_length_le (by rw [ledCells_len rfl, ledCells_len hy8.len]; omega), List.append_nil]
  rw [e10] at h10
  have hf010 : Fr w w10 := Ch.trans' (hf08.trans hf9) (by omega) hc10
  have s57 := (hf6.trans hf7).size
  have hlb5 : w5.heap.size ≤ lb := by have := hf58.size; omega
  have hrb10 := hc10.blk (hf9.blk (hf58.blk hrb5 fun h => h) fun h => h) (by have := hrb5.lt; omega)
  have hob10 := hc10.blk (hf9.blk (hf58.blk hob5 fun h => h) fun h => h) (by have := hob5.lt; omega)
  have hx10 : LedX w10 xs o.l := ((hx5.fr hf58).fr hf9).ch hc10 fun x hx c hc he => by have := (hx5.mem x hx).live_lt hc; omega
  have hyl : ∀ x ∈ ys, ∀ c, live x.2 = some c → w7.heap.size ≤ c ∧ c < w8.heap.size := fun x hx c hc => ⟨hfy8 x hx c hc, (hy8.mem x hx).live_lt hc⟩
  have hy10 : LedX w10 ys p.2 := (hy8.fr hf9).ch hc10 fun x hx c hc he => by have := hyl x hx c hc; omega
  refine join1 (fun v w' => v = .bool (decide (p.1 = 0 ∧ (o.there = false ∨ o.l.gen < p.2.gen))) ∧ w10 = w') ?_ ?_
  rotate_left
  · intro J hJ
    by_cases gp : p.1 = 0
    rotate_left
    · simp only [gp, decide_false, pGuard_true, Bool.false_eq_true, if_false]
      exact hJ _ _ ⟨by simp [gp], rfl⟩
    simp [gp]
    refine pLd1 hob10 lay_4 (newCells_tail hx5.len o).2 ?_
    try simp
    cases hth : o.there
    · simp
      exact hJ _ _ ⟨by simp [gp, hth], rfl⟩
    · simp
      refine pLd1 h10 lay_3 (v := i64 p.2.gen) rfl ?_
      refine pLd1 hob10 lay_3 (v := i64 o.l.gen) rfl ?_
      simp
      exact hJ _ _ ⟨by simp [gp, hth], rfl⟩
  rintro _ _ ⟨rfl, rfl⟩
  rw [pIf_bool]
  by_cases gx : p.1 = 0 ∧ (o.there = false ∨ o.l.gen < p.2.gen)
  · rw [decide_eq_true gx, if_pos rfl]
    rw [if_pos gx] at heq
    refine pLdN (ledCells p.2.gen p.2.epochs ys) h10 lay_56 (by rw [ledCells_len hy8.len]; omega) (by rw [List.drop_zero, List.take_of_length_le (by rw [ledCells_len hy8.len]; omega)]) ?_
    have hbm := newMain ⟨p.2, b, true⟩ ys hy8.len
    unfold ledVal at hbm
    rw [hbm, pVal_some]
    refine pStN (newCells ⟨p.2, b, true⟩ ys) hob10 lay_200 rfl (newCells_len hy8.len _) (by rw [newCells_len hx5.len]; omega) (newCells_one (o := ⟨p.2, b, true⟩) hy10) fun w11 hc11 h11 => ?_
    have e11 : splice (newCells o xs) 0 (newCells ⟨p.2, b, true⟩ ys) = newCells ⟨p.2, b, true⟩ ys := by
      unfold splice
      rw [List.take_zero, List.nil_append, List.drop_of_length_le (by rw [newCells_len hx5.len, newCells_len hy8.len]; omega), List.append_nil]
    rw [e11] at h11
    have hobl5 := hob5.lt
    have hrbl5 := hrb5.lt
    refine hag2 (i + 1) w11 (by omega) (by omega) ⟨⟨p.2, b, true⟩, ys, Ch.trans' hf010 (by omega) hc11, hc11.blk hrb10 (by omega), h11, hy10.ch hc11 fun x hx c hc he => by have := hyl x hx c hc; omega, fun x hx c hc => ?_, fun x hx c hc => ?_, heq⟩
    · have := hyl x hx c hc; have := hf07.size; omega
    · have := hyl x hx c hc; omega
  · rw [decide_eq_false gx, if_neg Bool.false_ne_true]
    rw [if_neg gx] at heq
    exact hag2 (i + 1) w10 (by omega) (by omega) ⟨o, xs, hf010, hrb10, hob10, hx10, hfr5, hne5, heq⟩
end Go.Al

namespace Go.Al
open Go Go.Proofs
def adLoad (a : ArrM) : Int × LedM := match adFind a with | none => (12, LedM.zero) | some o => (0, o.l)
structure PlaceM where
  block : Int
  at_ : Int
  e : Int
  a : ArrM
def adPlace (a : ArrM) (block : Int) : PlaceM :=
  if (a.next block : Int) < a.g.pages then ⟨block, a.next block, 0, a⟩ else
  if a.blank (1 - block) then ⟨1 - block, 0, 0, a⟩ else
  if (a.erase 4 (1 - block)).1 ≠ 0 then ⟨0, 0, (a.erase 4 (1 - block)).1, (a.erase 4 (1 - block)).2⟩ else ⟨1 - block, 0, 0, (a.erase 4 (1 - block)).2⟩
theorem Adlog_place {w : World} {γ : Col} {A : ArrA} {a : ArrM} {block : Int} {K : Value → World → Prop} (hw : Wf w γ) (h : ArrR w γ A a) (hb : 0 ≤ block ∧ block ≤ 1)
    (k : ∀ w', Keep arrC w γ w' γ → ArrR w' γ A (adPlace a block).a → K (.tuple #[i64 (adPlace a block).block, i64 (adPlace a block).at_, i64 (adPlace a block).e]) w') : pCall P 164 [ptr A.n 0, i64 block] K w := by
  refine c164 ?_
  unfold G164
  refine Nand_Next h ?_
  refine Nand_Geometry h fun w1 hf1 => ?_
  rw [geo_pages, pVal_some]
  have h1 := h.fr hw hf1
  have hk1 : Keep arrC w γ w1 γ := hf1.keep hw
  unfold adPlace at k
  simp only [binV_lss, pVal_some, pIf_bool, decide_eq_true_eq]
  by_cases g : (a.next block : Int) < a.g.pages
  · rw [if_pos g]
    simp only [if_pos g] at k
    exact k w1 hk1 h1
  rw [if_neg g]
  simp only [if_neg g] at k
  have hwr : IntKind.i64.wrap (1 - block) = 1 - block := wrap_in (by omega) (by omega)
  simp only [binV_sub, hwr, pVal_some]
  refine Nand_Blank h1 ?_
  simp only [unV_not, pVal_some, pIf_bool]
  cases gb : a.blank (1 - block)
  rotate_left
  · simp only [gb, if_true] at k
    try simp
    exact k w1 hk1 h1
  simp only [gb, Bool.false_eq_true, if_false] at k
  simp
  refine Nand_Erase hk1.wf h1 fun w2 hk2 h2 => ?_
  simp only [binV_neq, pVal_some, pIf_bool, Bool.not_eq_true', decide_eq_false_iff_not]
  by_cases ge : (a.erase 4 (1 - block)).1 = 0
  rotate_left
  · rw [if_pos ge]
    simp only [if_pos ge] at k
    exact k w2 (hk1.trans hk2 fun _ h => h) h2
  · rw [if_neg (by simpa using ge)]
    simp only [ne_eq, ge, not_true, if_false] at k
    exact k w2 (hk1.trans hk2 fun _ h => h) h2
def adSave (a : ArrM) (l : LedM) : Int × ArrM :=
  match adFind a with
  | none => (12, a)
  | some o =>
    if (l.bytes a.bl.length a.g.pages).1 ≠ 0 then ((l.bytes a.bl.length a.g.pages).1, a) else
    if l.gen ≤ o.l.gen then (2, a) else
    if (adPlace a o.block).e ≠ 0 then ((adPlace a o.block).e, (adPlace a o.block).a) else
    (adPlace a o.block).a.program 4 (adPlace a o.block).block (adPlace a o.block).at_ [] (l.bytes a.bl.length a.g.pages).2
theorem adRow_block {a : ArrM} {b : Nat} : ∀ {is : List Nat} {o o' : NewM}, adRow a b is o = some o' → o'.block = o.block ∨ o'.block = b
  | [], o, o', h => by simp only [adRow, Option.some.injEq] at h; rw [h]; exact .inl rfl
  | i :: is, o, o', h => by
    unfold adRow at h
    cases hs : adStep a b o i with
    | none => rw [hs] at h; cases h
    | some o1 =>
      rw [hs] at h
      have h1 := adRow_block h
      have h2 : o1.block = o.block ∨ o1.block = b := by
        unfold adStep at hs
        split at hs
        · cases hs
        · split at hs
          · cases hs; exact .inl rfl
          · split at hs <;> cases hs
            · exact .inr rfl
            · exact .inl rfl
      rcases h1 with h1 | h1
      · rw [h1]; exact h2
      · exact .inr h1
theorem adFind_block {a : ArrM} {o : NewM} (h : adFind a = some o) : 0 ≤ o.block ∧ o.block ≤ 1 := by
  unfold adFind at h
  have e : List.range 2 = [0, 1] := rfl
  rw [e] at h
  simp only [adRows] at h
  split at h
  · cases h
  · rename_i o1 h1
    have a1 := adRow_block h1
    split at h
    · cases h
    · rename_i o2 h2
      have a2 := adRow_block h2
      cases h
      have : NewM.zero.block = 0 := rfl
      omega
theorem foldPut_len : ∀ (ts : List TenM) (b : List UInt8), (∀ t ∈ ts, t.blocks.length ≤ 1000) → (ts.foldl TenM.put b).length ≤ b.length + ts.length * 4020
  | [], b, _ => by simp
  | t :: ts, b, h => by
    have h1 := foldPut_len ts (TenM.put b t) fun x hx => h x (.tail _ hx)
    have h2 := TenM.put_length b t
    have h3 := h t (.head _)
    rw [List.foldl_cons]
    simp; omega
theorem ledBytes_len {l : LedM} {xs : List (TenM × Value)} {w : World} (h : LedX w xs l) (blocks pages : Int) : (l.bytes blocks pages).2.length ≤ 1000000 := by
  unfold LedM.bytes
  split
  · simp
  · unfold frameMake
    split
    · simp
    · split
      · simp
      · have h1 := putM_length (frameHead 76 l.body) (sumOf (frameHead 76 l.body)) 4
        have h2 : (frameHead 76 l.body).length ≤ 8 + l.body.length := by
          unfold frameHead
          have a1 := putM_length (putM [] 76 1) l.body.length 2
          have a2 := putM_length [] 76 1
          simp at a2
          rw [List.length_append]; omega
        have h3 : l.body.length ≤ 8 + 4 * 4020 := by
          have a1 := putM_length (putM [] l.gen 4) l.epochs 4
          have a2 := putM_length [] l.gen 4
          have a3 := foldPut_len l.tens (putM (putM [] l.gen 4) l.epochs 4) fun t ht => by
            rw [← h.tens] at ht
            obtain ⟨x, hx, rfl⟩ := List.mem_map.1 ht
            exact h.few x hx
          have a4 : l.tens.length = 4 := by rw [← h.tens, List.length_map, h.len]
          simp at a2
          unfold LedM.body
          omega
        simp only
        omega
theorem Adlog_Save {w : World} {γ : Col} {A : ArrA} {a : ArrM} {l : LedM} {xs : List (TenM × Value)} {K : Value → World → Prop} (hw : Wf w γ) (h : ArrR w γ A a) (hp : a.g.pages ≤ 16) (hx : LedX w xs l)
    (k : ∀ w' γ', Keep arrC w γ w' γ' → ArrR w' γ' A (adSave a l).2 → K (i64 (adSave a l).1) w') : pCall P 131 [ptr A.n 0, ledVal l xs] K w := by
  refine c131 ?_
  unfold G131
  refine pNew_of (ledCells l.gen l.epochs xs) (by rfl) fun lb w1 hlb hlbl hf1 h1 => ?_
  rw [binV_ptr_eql (by simp), pVal_some, pIf_bool]
  simp only [Option.isNone_some, Bool.false_eq_true, if_false]
  have hwf : ∀ {w'}, Fr w w' → Wf w' γ := fun hf => (hf.keep (C := fun _ => False) hw).wf
  have s1 := hf1.size
  unfold adSave at k
  refine Adlog_find (hwf hf1) (h.fr hw hf1) hp ?_ ?_
  · intro w2 hf2 hn
    simp only [hn] at k
    simp only [extractV_tuple, List.getElem?_toArray, List.getElem?_cons_zero, List.getElem?_cons_succ, pVal_some]
    refine pAlloc_of (newCells NewM.zero ledZs) zero_new rfl fun nb w3 hnb hnbl hf3 h3 => ?_
    refine pStN (newCells NewM.zero ledZs) h3 lay_200 rfl (newCells_len rfl _) (by rw [newCells_len rfl]; omega) (newCells_one (ledZs_x w)) fun w4 hc4 h4 => ?_
    try simp
    have hf04 : Fr w w4 := Ch.trans' ((hf1.trans hf2).trans hf3) (by have := hf2.size; omega) hc4
    exact k w4 γ (hf04.keep hw) (h.fr hw hf04)
  · intro w2 o ys hf2 ho hy2 hfy
    simp only [ho] at k
    have hblk := adFind_block ho
    simp only [extractV_tuple, List.getElem?_toArray, List.getElem?_cons_zero, List.getElem?_cons_succ, pVal_some]
    refine pAlloc_of (newCells NewM.zero ledZs) zero_new rfl fun nb w3 hnb hnbl hf3 h3 => ?_
    refine pStN (newCells o ys) h3 lay_200 rfl (newCells_len hy2.len _) (by rw [newCells_len rfl]; omega) (newCells_one hy2) fun w4 hc4 h4 => ?_
    have e4 : splice (newCells NewM.zero ledZs) 0 (newCells o ys) = newCells o ys := by
      unfold splice
      rw [List.take_zero, List.nil_append, List.drop_of_length_le (by rw [newCells_len hy2.len, newCells_len rfl]; omega), List.append_nil]
    rw [e4] at h4
    have s2 := hf2.size
    have hf04 : Fr w w4 := Ch.trans' ((hf1.trans hf2).trans hf3) (by omega) hc4
    have hlb4 : Blk w4 lb 56 (ledCells l.gen l.epochs xs) := hc4.blk (hf3.blk (hf2.blk h1 fun h => h) fun h => h) (by omega)
    try simp
    refine pDraw_fr (fun w' => Fr w4 w') fun w5 hf5 _ _ => ⟨hf5, ?_⟩
    refine pHldN (ledCells l.gen l.epochs xs) (fun w' hS => hS.blk hlb4 fun h => h) lay_56 (by rw [ledCells_len hx.len]; omega) (by rw [List.drop_zero, List.take_of_length_le (by rw [ledCells_len hx.len]; omega)]) ?_
    have hf05 := hf04.trans hf5
    refine Nand_Blocks (h.fr hw hf05) ?_
    rw [pKeep_true]
    refine ⟨hf5, ?_⟩
    refine Nand_Geometry (h.fr hw hf05) fun w6 hf6 => ?_
    try rw [pKeep_true]
    try refine ⟨hf5.trans hf6, ?_⟩
    rw [geo_pages, pVal_some]
    have hf06 := hf05.trans hf6
    have hlenb := h.ok.blocks
    refine Snap_Bytes (hx.fr hf06) (by omega) (by omega) fun v7 w7 hs7 hf7 hr7 => ?_
    obtain ⟨q, hq⟩ : ∃ q, q = l.bytes a.bl.length a.g.pages := ⟨_, rfl⟩
    have hql : q.2.length ≤ 1000000 := by rw [hq]; exact ledBytes_len hx _ _
    rw [← hq] at hs7 k ⊢
    simp only [extractV_tuple, List.getElem?_toArray, List.getElem?_cons_zero, List.getElem?_cons_succ, pVal_some, binV_eql, binV_neq, pIf_bool, Bool.not_eq_true', decide_eq_false_iff_not, decide_eq_true_eq]
    have hf47 := (hf5.trans hf6).trans hf7
    have hf07 := hf04.trans hf47
    have hlb7 := hf47.blk hlb4 fun h => h
    have h7 := hf47.blk h4 fun h => h
    by_cases g1 : q.1 = 0
    rotate_left
    · rw [if_pos g1]
      simp only [if_pos g1] at k
      exact k w7 γ (hf07.keep hw) (h.fr hw hf07)
    rw [if_neg (by simpa using g1)]
    simp only [ne_eq, g1, not_true, if_false] at k
    try simp
    refine pLd1 hlb7 lay_3 (v := i64 l.gen) rfl ?_
    refine pLd1 h7 lay_3 (v := i64 o.l.gen) rfl ?_
    simp only [binV_leq, pVal_some, pIf_bool, decide_eq_true_eq]
    by_cases g2 : l.gen ≤ o.l.gen
    · rw [if_pos g2]
      simp only [if_pos g2] at k
      exact k w7 γ (hf07.keep hw) (h.fr hw hf07)
    rw [if_neg g2]
    simp only [if_neg g2] at k
    refine pLd1 h7 lay_3 (newCells_tail hy2.len o).1 ?_
    refine Adlog_place (hwf hf07) (h.fr hw hf07) hblk fun w8 hk8 h8 => ?_
    have hk08 : Keep arrC w γ w8 γ := (hf07.keep (C := arrC) hw).trans hk8 fun _ h => h
    simp only [extractV_tuple, List.getElem?_toArray, List.getElem?_cons_zero, List.getElem?_cons_succ, pVal_some, binV_eql, binV_neq, pIf_bool, Bool.not_eq_true', decide_eq_false_iff_not, decide_eq_true_eq]
    obtain ⟨p, hpp⟩ : ∃ p, p = adPlace a o.block := ⟨_, rfl⟩
    rw [← hpp] at k h8 ⊢
    by_cases g3 : p.e = 0
    rotate_left
    · rw [if_pos g3]
      simp only [if_pos g3] at k
      exact k w8 γ hk08 h8
    rw [if_neg (by simpa using g3)]
    simp only [ne_eq, g3, not_true, if_false] at k
    have hv7 : ∀ c, live v7 = some c → w.heap.size ≤ c ∧ γ c = 0 := fun c hc => by
      have := hr7 c hc
      have := hf06.size
      have hwc := hw c (by omega)
      exact ⟨by omega, hwc⟩
    refine pStringOf und_bytes und_string und_byte cB_eq (hs7.ch hk8.ch fun c hc hcol => by have := (hv7 c hc).2; rw [this] at hcol; exact absurd hcol.1 (by omega)) ?_
    refine Nand_Program hk08.wf h8 (Bytes.nil _) (fun c hc => by cases hc) fun w9 γ9 hk9 h9 => ?_
    exact k w9 γ9 (hk08.trans hk9 fun _ h => h) h9
end Go.Al

namespace Go.Al
open Go Go.Proofs
theorem splice_all {l0 vs : List Value} (h : l0.length = vs.length) : splice l0 0 vs = vs := by
  unfold splice
  rw [List.take_zero, List.nil_append, List.drop_of_length_le (by omega), List.append_nil]
/-- A result's variable is given a value, and handed back. -/
theorem pStRes {w : World} {rb n : Nat} {T : TypeId} {l0 vs : List Value} {K : Value → World → Prop} (h : Blk w rb T l0) (hl : l0.length = n) (ht : lay P T = some (true, n)) (hvs : vs.length = n) (h1 : vs.all (·.oneCell') = true)
    (k : ∀ w', Ch (· = rb) w w' → K (.agg vs.toArray) w') : (pSt P T (ptr rb 0) (.agg vs.toArray) <| pRes P T (ptr rb 0) K) w := by
  refine pStN vs h ht (by simp) hvs (by omega) h1 fun w4 hc4 h4 => ?_
  rw [splice_all (by omega)] at h4
  exact pResN h4 ht hvs (k w4 hc4)
/-- A variable of more cells is given a value anew. -/
theorem pStAll {w : World} {b n : Nat} {T : TypeId} {g : Bool} {l0 vs : List Value} {v : Value} {K : World → Prop} (h : Blk w b T l0) (hl : l0.length = n) (ht : lay P T = some (g, n)) (hv : v.cells.toList = vs) (hvs : vs.length = n) (h1 : vs.all (·.oneCell') = true)
    (k : ∀ w', Ch (· = b) w w' → Blk w' b T vs → K w') : (pSt P T (ptr b 0) v K) w := by
  refine pStN vs h ht hv hvs (by omega) h1 fun w4 hc4 h4 => ?_
  rw [splice_all (by omega)] at h4
  exact k w4 hc4 h4
/-- A variable of more cells is read whole. -/
theorem pLdAll {w : World} {b n : Nat} {T : TypeId} {l : List Value} {K : Value → World → Prop} (h : Blk w b T l) (ht : lay P T = some (true, n)) (hl : l.length = n) (k : K (.agg l.toArray) w) : pLd P T (ptr b 0) K w :=
  pLdN l h ht (by omega) (by rw [List.drop_zero, List.take_of_length_le (by omega)]) k
structure FoundM where
  block : Int
  page : Int
  torn : Bool
  tag : TagM
  data : List UInt8
  deriving DecidableEq
def FoundM.zero : FoundM := ⟨0, 0, false, TagM.zero, []⟩
def FoundM.cells (f : FoundM) : List Value := [i64 f.block, i64 f.page, .bool f.torn] ++ f.tag.cells ++ [sV f.data]
def FoundM.val (f : FoundM) : Value := .agg f.cells.toArray
theorem FoundM.len (f : FoundM) : f.cells.length = 10 := rfl
theorem zero_found : zeroP P 184 = some FoundM.zero.val := by kernel_rfl
theorem found_build0 : buildV P 184 [] = some FoundM.zero.val := by kernel_rfl
theorem found_build2 (b p : Int) : buildV P 184 [(0, i64 b), (1, i64 p)] = some (FoundM.val ⟨b, p, false, TagM.zero, []⟩) := by
  simp [buildV_app, fillL, fillA, splice, FoundM.val, FoundM.cells, TagM.cells, TagM.zero]
structure OneM where
  e : Int
  f : FoundM
def scanOne (a : ArrM) (blocks : List Int) (block page : Int) : OneM :=
  if block < 0 ∨ blocks.length ≤ block then ⟨5, FoundM.zero⟩ else
  let q := a.read ((blocks[block.toNat]?).getD 0) page
  if q.1 ≠ 0 ∧ q.1 ≠ 11 then ⟨q.1, FoundM.zero⟩ else
  if q.1 = 11 ∨ (tagParse q.2.1).1 ≠ 0 then ⟨0, ⟨block, page, true, TagM.zero, []⟩⟩ else ⟨0, ⟨block, page, false, (tagParse q.2.1).2, q.2.2⟩⟩
theorem Scan_One {w : World} {γ : Col} {A : ArrA} {a : ArrM} {bv : Value} {blocks : List Int} {block page : Int} {K : Value → World → Prop} (hw : Wf w γ) (h : ArrR w γ A a) (hb : Ints w bv blocks) (hbl : blocks.length ≤ 1000000)
    (k : ∀ w', Fr w w' → K (.tuple #[(scanOne a blocks block page).f.val, i64 (scanOne a blocks block page).e]) w') : pCall P 121 [ptr A.n 0, bv, i64 block, i64 page] K w := by
  refine c121 ?_
  unfold G121
  refine pAlloc_of FoundM.zero.cells zero_found rfl fun rb w1 hrb hrbl hf1 h1 => ?_
  rw [binV_ptr_eql (by simp), pVal_some, pIf_bool]
  simp only [Option.isNone_some, Bool.false_eq_true, if_false]
  unfold scanOne at k
  have s1 := hf1.size
  refine join1 (fun v w' => v = .bool (decide (block < 0 ∨ blocks.length ≤ block)) ∧ w1 = w') ?_ ?_
  rotate_left
  · intro J hJ
    by_cases g : block < 0
    · simp [g]
      exact hJ _ _ ⟨by simp [g], rfl⟩
    · simp [g]
      rw [(hb.fr hf1).len (by simp)]
      try simp
      exact hJ _ _ ⟨by simp [g], rfl⟩
  rintro _ _ ⟨rfl, rfl⟩
  rw [pIf_bool]
  by_cases g : block < 0 ∨ blocks.length ≤ block
  · rw [decide_eq_true g, if_pos rfl, found_build0, pVal_some]
    simp only [if_pos g] at k
    exact pStRes h1 rfl lay_184 rfl rfl fun w2 hc2 => k w2 (Ch.trans' hf1 (by omega) hc2)
  rw [decide_eq_false g, if_neg Bool.false_ne_true]
  simp only [if_neg g] at k
  obtain ⟨i, rfl⟩ : ∃ i : Nat, block = i := ⟨block.toNat, by omega⟩
  have hi : i < blocks.length := by omega
  have hget : (blocks[((i : Nat) : Int).toNat]?).getD 0 = blocks[i] := by simp [hi]
  rw [hget] at k
  refine Ints.get (hb.fr hf1) hi ?_
  have hwf1 : Wf w1 γ := (hf1.keep (C := fun _ => False) hw).wf
  refine Nand_Read hwf1 (h.fr hw hf1) fun w2 v2 hf2 hs2 hr2 => ?_
  obtain ⟨q, hq⟩ : ∃ q, q = a.read blocks[i] page := ⟨_, rfl⟩
  have hrl := read_len h.ok blocks[i] page
  rw [← hq] at hs2 k hrl ⊢
  simp only [extractV_tuple, List.getElem?_toArray, List.getElem?_cons_zero, List.getElem?_cons_succ, pVal_some]
  have h2 := hf2.blk h1 fun h => h
  have hf02 := hf1.trans hf2
  refine join1 (fun v w' => v = .bool (decide (q.1 ≠ 0 ∧ q.1 ≠ 11)) ∧ w2 = w') ?_ ?_
  rotate_left
  · intro J hJ
    by_cases g0 : q.1 = 0
    · simp [g0]
      exact hJ _ _ ⟨by simp [g0], rfl⟩
    · simp [g0]
      exact hJ _ _ ⟨by simp [g0], rfl⟩
  rintro _ _ ⟨rfl, rfl⟩
  rw [pIf_bool]
  by_cases g1 : q.1 ≠ 0 ∧ q.1 ≠ 11
  · rw [decide_eq_true g1, if_pos rfl, found_build0, pVal_some]
    simp only [if_pos g1] at k
    exact pStRes h2 rfl lay_184 rfl rfl fun w3 hc3 => k w3 (Ch.trans' hf02 (by omega) hc3)
  rw [decide_eq_false g1, if_neg Bool.false_ne_true, found_build2, pVal_some]
  simp only [if_neg g1] at k
  refine pAlloc_of FoundM.zero.cells zero_found rfl fun fb w3 hfb hfbl hf3 h3 => ?_
  refine pStAll h3 rfl lay_184 (vs := FoundM.cells ⟨i, page, false, TagM.zero, []⟩) (by simp [FoundM.val]) rfl rfl fun w4 hc4 h4 => ?_
  have s2 := hf02.size
  have hf04 : Fr w w4 := Ch.trans' (hf02.trans hf3) (by omega) hc4
  have hs4 : Bytes w4 v2 q.2.1 := (hs2.fr hf3).ch hc4 fun c hc he => by have := hs2.live_lt hc; omega
  refine Tag_Parse hs4 (by omega) fun w5 hf5 => ?_
  obtain ⟨t, ht⟩ : ∃ t, t = tagParse q.2.1 := ⟨_, rfl⟩
  rw [← ht] at k ⊢
  simp only [extractV_tuple, List.getElem?_toArray, List.getElem?_cons_zero, List.getElem?_cons_succ, pVal_some]
  refine pAlloc_of TagM.zero.cells zero_182 rfl fun tb w6 htb htbl hf6 h6 => ?_
  refine pStAll h6 rfl lay_182 (vs := t.2.cells) (by simp [TagM.val]) rfl rfl fun w7 hc7 h7 => ?_
  have s4 := hf04.size
  have s5 := hf5.size
  have hf07 : Fr w w7 := Ch.trans' ((hf04.trans hf5).trans hf6) (by omega) hc7
  have h47 := hc7.blk (hf6.blk (hf5.blk h4 fun h => h) fun h => h) (by have := h4.lt; omega)
  have h27 := hc7.blk (hf6.blk (hf5.blk (hc4.blk (hf3.blk h2 fun h => h) (by have := h2.lt; omega)) fun h => h) fun h => h) (by have := h2.lt; have := hf3.size; have := hc4.size; omega)
  refine join1 (fun v w' => v = .bool (decide (q.1 = 11 ∨ t.1 ≠ 0)) ∧ w7 = w') ?_ ?_
  rotate_left
  · intro J hJ
    by_cases g0 : q.1 = 11
    · simp [g0]
      exact hJ _ _ ⟨by simp [g0], rfl⟩
    · simp [g0]
      exact hJ _ _ ⟨by simp [g0], rfl⟩
  rintro _ _ ⟨rfl, rfl⟩
  rw [pIf_bool]
  have hrbl4 : rb < fb := by have := h2.lt; omega
  by_cases g2 : q.1 = 11 ∨ t.1 ≠ 0
  · rw [decide_eq_true g2, if_pos rfl]
    simp only [if_pos g2] at k
    try simp
    refine pSt1 h47 lay_4 rfl rfl (by rw [FoundM.len]; omega) fun w8 hc8 h8 => ?_
    have h8' : Blk w8 fb 184 (FoundM.cells ⟨i, page, true, TagM.zero, []⟩) := h8
    refine pLdAll h8' lay_184 rfl ?_
    refine pStRes (hc8.blk h27 (by omega)) rfl lay_184 rfl rfl fun w9 hc9 => ?_
    exact k w9 (Ch.trans' (Ch.trans' hf07 (by omega) hc8) (by omega) hc9)
  · rw [decide_eq_false g2, if_neg Bool.false_ne_true]
    simp only [if_neg g2] at k
    refine pLdAll h7 lay_182 rfl ?_
    try simp
    refine pStN t.2.cells h47 lay_182 (by simp) rfl (by rw [FoundM.len]; omega) rfl fun w8 hc8 h8 => ?_
    have h8' : Blk w8 fb 184 (FoundM.cells ⟨i, page, false, t.2, []⟩) := h8
    try simp
    refine pSt1 h8' lay_9 rfl rfl (by rw [FoundM.len]; omega) fun w9 hc9 h9 => ?_
    have h9' : Blk w9 fb 184 (FoundM.cells ⟨i, page, false, t.2, q.2.2⟩) := h9
    refine pLdAll h9' lay_184 rfl ?_
    refine pStRes (hc9.blk (hc8.blk h27 (by omega)) (by omega)) rfl lay_184 rfl rfl fun w10 hc10 => ?_
    exact k w10 (Ch.trans' (Ch.trans' (Ch.trans' hf07 (by omega) hc8) (by omega) hc9) (by omega) hc10)
end Go.Al

namespace Go.Al
open Go Go.Proofs
def fv (p : Int × FoundM) : Int × Value := (p.1, p.2.val)
end Go.Al

namespace Go.Al
open Go Go.Proofs
structure StoreM where
  who : Int
  ent : TenM
  tab : TableM
  wait : List ChM
  seq : Int
  front : Int
  only : Bool
def StoreM.blk (s : StoreM) (i : Int) : Int := (s.ent.blocks[i.toNat]?).getD 0
def sBad (a : ArrM) (s : StoreM) (i : Int) : Bool := a.bad (s.blk i)
def sBlank (a : ArrM) (s : StoreM) (i : Int) : Bool := !sBad a s i && a.blank (s.blk i)
def sNext (a : ArrM) (s : StoreM) (i : Int) : Nat := a.next (s.blk i)
def StoreM.len (s : StoreM) : Nat := s.ent.blocks.length
def countTo (p : Nat → Bool) : Nat → Nat
  | 0 => 0
  | n + 1 => countTo p n + (if p n then 1 else 0)
def sBadN (a : ArrM) (s : StoreM) : Nat := countTo (fun i => sBad a s i) s.len
def sSpares (a : ArrM) (s : StoreM) : Int := s.ent.spare - sBadN a s
def pickTo (p : Nat → Bool) : Nat → List Int
  | 0 => []
  | n + 1 => pickTo p n ++ (if p n then [(n : Int)] else [])
def sFree (a : ArrM) (s : StoreM) : List Int := pickTo (fun i => decide ((i : Int) ≠ s.front) && sBlank a s i) s.len
def sNeeded (a : ArrM) (s : StoreM) (i : Int) : List Int := pickTo (fun p => decide (0 ≤ s.tab.place i p)) a.g.pages.toNat
theorem countTo_le (p : Nat → Bool) : ∀ n, countTo p n ≤ n
  | 0 => Nat.le_refl _
  | n + 1 => by have := countTo_le p n; unfold countTo; split <;> omega
theorem pickTo_len (p : Nat → Bool) : ∀ n, (pickTo p n).length ≤ n
  | 0 => by simp [pickTo]
  | n + 1 => by have := pickTo_len p n; unfold pickTo; split <;> simp <;> omega
theorem pickTo_mem (p : Nat → Bool) : ∀ n, ∀ x ∈ pickTo p n, ∃ i : Nat, x = i ∧ i < n ∧ p i = true
  | 0, x, h => by simp [pickTo] at h
  | n + 1, x, h => by
    unfold pickTo at h
    rcases List.mem_append.1 h with h | h
    · obtain ⟨i, h1, h2, h3⟩ := pickTo_mem p n x h
      exact ⟨i, h1, by omega, h3⟩
    · split at h
      · rename_i hp
        simp only [List.mem_singleton] at h
        exact ⟨n, h, by omega, hp⟩
      · cases h
structure StoreM.ok (s : StoreM) : Prop where
  len : s.ent.blocks.length ≤ 500
  front : -1 ≤ s.front ∧ s.front < s.ent.blocks.length
  spare : 0 ≤ s.ent.spare ∧ s.ent.spare ≤ 1000
def stCells (n : Nat) (s : StoreM) (bv : Value) (tb wb : Nat) : List Value := [ptr n 0, i64 s.who, .bool s.ent.there, i64 s.ent.epoch, i64 s.ent.size, i64 s.ent.spare, bv, ptr tb 0, ptr wb 0, i64 s.seq, i64 s.front, .bool s.only]
/-- A store in memory, of the colours from c on. -/
structure StoreR (w : World) (γ : Col) (n c b : Nat) (s : StoreM) : Prop where
  big : 1000 ≤ c
  col : γ b = c
  ok : s.ok
  mem : ∃ bv tb wb, Blk w b 174 (stCells n s bv tb wb) ∧ Ints w bv s.ent.blocks ∧ (∀ x, live bv = some x → γ x = c + 1) ∧ TableR w γ (c + 10) tb s.tab ∧ BufferR w γ (c + 2) wb s.wait
/-- A store's colours. -/
def stC (c x : Nat) : Prop := c ≤ x ∧ x < c + 300
/-- What an operation of a store may change. -/
def opC (c x : Nat) : Prop := arrC x ∨ stC c x
theorem StoreR.keep {w w' : World} {γ γ' : Col} {n c b : Nat} {s : StoreM} {C : Nat → Prop} (h : StoreR w γ n c b s) (hk : Keep C w γ w' γ') (hC : ∀ x, stC c x → ¬ C x) : StoreR w' γ' n c b s := by
  obtain ⟨h0, h1, h2, bv, tb, wb, h3, h4, h5, h6, h7⟩ := h
  refine ⟨h0, (hk.col b h3.lt).trans h1, h2, bv, tb, wb, hk.blk h3 (by rw [h1]; exact hC _ ⟨by omega, by omega⟩), h4.ch hk.ch fun x hx => by rw [h5 x hx]; exact hC _ ⟨by omega, by omega⟩,
    fun x hx => (hk.col x (h4.live_lt hx)).trans (h5 x hx), h6.keep hk fun x hx => hC _ ?_, h7.keep hk (hC _ ⟨by omega, by omega⟩)⟩
  unfold tabC at hx
  exact ⟨by omega, by omega⟩
/-- An array and a store on it. -/
structure SRep (w : World) (γ : Col) (A : ArrA) (c b : Nat) (a : ArrM) (s : StoreM) : Prop where
  wf : Wf w γ
  arr : ArrR w γ A a
  st : StoreR w γ A.n c b s
  pages : 0 ≤ a.g.pages ∧ a.g.pages ≤ 16
theorem SRep.fr {w w' : World} {γ : Col} {A : ArrA} {c b : Nat} {a : ArrM} {s : StoreM} (h : SRep w γ A c b a s) (hf : Fr w w') : SRep w' γ A c b a s :=
  ⟨(hf.keep (C := fun _ => False) h.wf).wf, h.arr.fr h.wf hf, h.st.keep (hf.keep (C := fun _ => False) h.wf) fun _ _ h => h, h.pages⟩
theorem Fr.keepS {w w' : World} {γ : Col} {A : ArrA} {c b : Nat} {a : ArrM} {s : StoreM} {C : Nat → Prop} (hf : Fr w w') (h : SRep w γ A c b a s) : Keep C w γ w' γ := hf.keep h.wf
/-- The array was changed. -/
theorem SRep.arrK {w w' : World} {γ γ' : Col} {A : ArrA} {c b : Nat} {a a' : ArrM} {s : StoreM} (h : SRep w γ A c b a s) (hk : Keep arrC w γ w' γ') (ha : ArrR w' γ' A a') (hg : a'.g = a.g) : SRep w' γ' A c b a' s :=
  ⟨hk.wf, ha, h.st.keep hk fun x hx hc => by have := h.st.big; unfold stC at hx; unfold arrC at hc; omega, by rw [hg]; exact h.pages⟩
section
variable {w : World} {γ : Col} {A : ArrA} {c b : Nat} {a : ArrM} {s : StoreM} {K : Value → World → Prop}
theorem StoreM.blk_in {s : StoreM} {i : Nat} (h : i < s.len) : s.blk i = s.ent.blocks[i]'h := by
  unfold StoreM.blk StoreM.len at *
  simp [h]
theorem Store_bad {i : Nat} (h : SRep w γ A c b a s) (hi : i < s.len) (k : ∀ w', Fr w w' → K (.bool (sBad a s i)) w') : pCall P 113 [ptr b 0, i64 i] K w := by
  refine c113 ?_
  unfold G113
  obtain ⟨bv, tb, wb, h3, h4, h5, h6, h7⟩ := h.st.mem
  obtain ⟨ib, io, iT, il, hil, hib, hix, hio, hic, _⟩ := h4.at (P := P) (i := i) (x := s.ent.blocks[i]) (List.getElem?_eq_getElem hi) (by omega)
  refine pDraw_fr (fun w' => Fr w w') fun w1 hf1 _ _ => ⟨hf1, ?_⟩
  simp
  refine pHld1 (fun w' hS => hS.blk h3 fun h => h) lay_58 rfl ?_
  refine pHld1 (fun w' hS => hS.blk h3 fun h => h) lay_24 (v := bv) rfl ?_
  rw [hix _ _ idx_24, pVal_some]
  refine pHld1 (fun w' hS => hS.blk hib fun h => h) lay_3 (take_one hic) ?_
  refine Nand_Bad (h.fr hf1).arr ?_
  rw [pKeep_true]
  refine ⟨hf1, ?_⟩
  have := k w1 hf1
  unfold sBad at this
  rw [StoreM.blk_in hi] at this
  exact this
theorem Store_next {i : Nat} (h : SRep w γ A c b a s) (hi : i < s.len) (k : ∀ w', Fr w w' → K (i64 (sNext a s i)) w') : pCall P 176 [ptr b 0, i64 i] K w := by
  refine c176 ?_
  unfold G176
  obtain ⟨bv, tb, wb, h3, h4, h5, h6, h7⟩ := h.st.mem
  obtain ⟨ib, io, iT, il, hil, hib, hix, hio, hic, _⟩ := h4.at (P := P) (i := i) (x := s.ent.blocks[i]) (List.getElem?_eq_getElem hi) (by omega)
  refine pDraw_fr (fun w' => Fr w w') fun w1 hf1 _ _ => ⟨hf1, ?_⟩
  simp
  refine pHld1 (fun w' hS => hS.blk h3 fun h => h) lay_58 rfl ?_
  refine pHld1 (fun w' hS => hS.blk h3 fun h => h) lay_24 (v := bv) rfl ?_
  rw [hix _ _ idx_24, pVal_some]
  refine pHld1 (fun w' hS => hS.blk hib fun h => h) lay_3 (take_one hic) ?_
  refine Nand_Next (h.fr hf1).arr ?_
  rw [pKeep_true]
  refine ⟨hf1, ?_⟩
  have := k w1 hf1
  unfold sNext at this
  rw [StoreM.blk_in hi] at this
  exact this
theorem Store_blank {i : Nat} (h : SRep w γ A c b a s) (hi : i < s.len) (k : ∀ w', Fr w w' → K (.bool (sBlank a s i)) w') : pCall P 116 [ptr b 0, i64 i] K w := by
  refine c116 ?_
  unfold G116
  obtain ⟨bv, tb, wb, h3, h4, h5, h6, h7⟩ := h.st.mem
  obtain ⟨ib, io, iT, il, hil, hib, hix, hio, hic, _⟩ := h4.at (P := P) (i := i) (x := s.ent.blocks[i]) (List.getElem?_eq_getElem hi) (by omega)
  refine pDraw_fr (fun w' => Fr w w') fun w1 hf1 _ _ => ⟨hf1, ?_⟩
  refine Store_bad (h.fr hf1) hi fun w2 hf2 => ?_
  have hf02 := hf1.trans hf2
  rw [pKeep_true]
  refine ⟨hf02, ?_⟩
  have k' := fun w' hf => k w' hf
  unfold sBlank at k'
  simp
  cases hb : sBad a s i
  rotate_left
  · simp
    have := k' w2 hf02
    simp [hb] at this
    exact this
  simp
  refine pHld1 (fun w' hS => hS.blk h3 fun h => h) lay_58 rfl ?_
  refine pHld1 (fun w' hS => hS.blk h3 fun h => h) lay_24 (v := bv) rfl ?_
  rw [hix _ _ idx_24, pVal_some]
  refine pHld1 (fun w' hS => hS.blk hib fun h => h) lay_3 (take_one hic) ?_
  refine Nand_Blank (h.fr hf02).arr ?_
  simp
  refine ⟨hf02, ?_⟩
  have := k' w2 hf02
  rw [hb, StoreM.blk_in hi] at this
  simpa using this
theorem Store_pages (h : SRep w γ A c b a s) (k : ∀ w', Fr w w' → K (i64 a.g.pages) w') : pCall P 177 [ptr b 0] K w := by
  refine c177 ?_
  unfold G177
  obtain ⟨bv, tb, wb, h3, h4, h5, h6, h7⟩ := h.st.mem
  simp
  refine pLd1 h3 lay_58 rfl ?_
  refine Nand_Geometry h.arr fun w1 hf1 => ?_
  rw [geo_pages, pVal_some]
  exact k w1 hf1
theorem Store_Blocks (h : SRep w γ A c b a s) (k : ∀ w' v, Fr w w' → Ints w' v s.ent.blocks → Fresh w v → K v w') : pCall P 112 [ptr b 0] K w := by
  refine c112 ?_
  unfold G112
  obtain ⟨bv, tb, wb, h3, h4, h5, h6, h7⟩ := h.st.mem
  rw [binV_ptr_eql (by simp), pVal_some, pIf_bool]
  simp
  refine pLd1 h3 lay_24 (v := bv) rfl ?_
  have := h.st.ok.len
  exact Clone_int h4 (by omega) fun v w' hs hf hr => k w' v hf hs hr
theorem Store_Bad (h : SRep w γ A c b a s) (k : ∀ w', Fr w w' → K (i64 (sBadN a s)) w') : pCall P 55 [ptr b 0] K w := by
  refine c55 ?_
  unfold G55
  have hl := h.st.ok.len
  refine Store_Blocks h fun w1 v hf1 hv1 _ => ?_
  rw [hv1.len (by simp), pVal_some]
  unfold sBadN at k
  refine loop2_upR 0 s.len (fun i x w' => Fr w w' ∧ x = i64 (countTo (fun i => sBad a s i) i)) (by omega) ⟨hf1, rfl⟩ ?_
  rintro i _ w2 ag hag _ hi ⟨hf2, rfl⟩
  have hwi : IntKind.i64.wrap ((i : Int) + 1) = ((i + 1 : Nat) : Int) := wrap_succ (by unfold StoreM.len at hi; omega)
  have hcl := countTo_le (fun i => sBad a s i) i
  by_cases hlt : i < s.len
  · have hlt' : (i : Int) < (s.ent.blocks.length : Int) := by unfold StoreM.len at hlt; omega
    simp only [binV_lss, pVal_some, hlt', decide_true, pIf_bool, if_true]
    refine Store_bad (h.fr hf2) hlt fun w3 hf3 => ?_
    rw [pIf_bool]
    have hwc : IntKind.i64.wrap ((countTo (fun i => sBad a s i) i : Nat) + 1 : Int) = ((countTo (fun i => sBad a s i) i + 1 : Nat) : Int) := wrap_succ (by unfold StoreM.len at hi; omega)
    by_cases g : sBad a s i = true
    · rw [if_pos g]
      simp only [binV_add, pVal_some, hwi, hwc]
      exact hag (i + 1) _ w3 (by omega) (by omega) ⟨hf2.trans hf3, by simp [countTo, g]⟩
    · rw [if_neg g]
      simp only [binV_add, pVal_some, hwi]
      exact hag (i + 1) _ w3 (by omega) (by omega) ⟨hf2.trans hf3, by simp [countTo, g]⟩
  · have hlt' : ¬ (i : Int) < (s.ent.blocks.length : Int) := by unfold StoreM.len at hlt; omega
    simp only [binV_lss, pVal_some, hlt', decide_false, pIf_bool, Bool.false_eq_true, if_false]
    obtain rfl : i = s.len := by omega
    exact k w2 hf2
theorem Store_spares (h : SRep w γ A c b a s) (k : ∀ w', Fr w w' → K (i64 (sSpares a s)) w') : pCall P 240 [ptr b 0] K w := by
  refine c240 ?_
  unfold G240
  obtain ⟨bv, tb, wb, h3, h4, h5, h6, h7⟩ := h.st.mem
  refine pDraw_fr (fun w' => Fr w w') fun w1 hf1 _ _ => ⟨hf1, ?_⟩
  simp
  refine pHld1 (fun w' hS => hS.blk h3 fun h => h) lay_3 (v := i64 s.ent.spare) rfl ?_
  refine Store_Bad (h.fr hf1) fun w2 hf2 => ?_
  rw [pKeep_true]
  refine ⟨hf1.trans hf2, ?_⟩
  have hl := h.st.ok.len
  have hs := h.st.ok.spare
  have hcl := countTo_le (fun i => sBad a s i) s.len
  have hb : (sBadN a s : Int) ≤ 500 := by unfold sBadN; unfold StoreM.len at *; omega
  simp only [binV_sub, pVal_some]
  rw [wrap_in (by omega) (by omega)]
  exact k w2 (hf1.trans hf2)
theorem Store_Free (h : SRep w γ A c b a s) (k : ∀ w' v, Fr w w' → Ints w' v (sFree a s) → Fresh w v → K v w') : pCall P 59 [ptr b 0] K w := by
  refine c59 ?_
  unfold G59
  have hl := h.st.ok.len
  refine Store_Blocks h fun w1 v hf1 hv1 _ => ?_
  rw [hv1.len (by simp), pVal_some]
  unfold sFree at k
  obtain ⟨p, hp⟩ : ∃ p : Nat → Bool, p = fun i : Nat => decide ((i : Int) ≠ s.front) && sBlank a s (i : Int) := ⟨_, rfl⟩
  rw [← hp] at k
  refine loop2_upR 0 s.len (fun i x w' => Fr w w' ∧ Ints w' x (pickTo p i) ∧ Fresh w x) (by omega) ⟨hf1, Sl.nil _ cI_len, Fresh.nil _⟩ ?_
  rintro i x w2 ag hag _ hi ⟨hf2, hx2, hfx2⟩
  have hwi : IntKind.i64.wrap ((i : Int) + 1) = ((i + 1 : Nat) : Int) := wrap_succ (by unfold StoreM.len at hi; omega)
  have hcl := pickTo_len p i
  by_cases hlt : i < s.len
  · have hlt' : (i : Int) < (s.ent.blocks.length : Int) := by unfold StoreM.len at hlt; omega
    simp only [binV_lss, pVal_some, hlt', decide_true, pIf_bool, if_true]
    have h2 := h.fr hf2
    obtain ⟨bv, tb, wb, h3, h4, h5, h6, h7⟩ := h2.st.mem
    refine join1 (fun u w' => u = .bool (p i) ∧ Fr w2 w') ?_ ?_
    rotate_left
    · intro J hJ
      simp
      refine pLd1 h3 lay_3 (v := i64 s.front) rfl ?_
      simp
      by_cases g : (i : Int) = s.front
      · simp [g]
        exact hJ _ _ ⟨by rw [hp]; simp [g], Ch.refl _ _⟩
      · simp [g]
        refine Store_blank h2 hlt fun w3 hf3 => ?_
        exact hJ _ _ ⟨by rw [hp]; simp [g], hf3⟩
    rintro _ w3 ⟨rfl, hf3⟩
    rw [pIf_bool]
    by_cases g : p i = true
    · rw [if_pos g]
      refine pRowN [(i : Int)] sli_int cI_len rfl (by omega) (rowV_int _ trivial) fun rv w4 hs4 hf4 hr4 => ?_
      refine pAppend sli_int ((hx2.fr hf3).fr hf4) hs4 cI_one (by unfold StoreM.len at hi; simp; omega) (by omega) fun x' w5 hs5 hc5 hl5 => ?_
      simp only [binV_add, pVal_some, hwi]
      have hf04 := (hf2.trans hf3).trans hf4
      have s4 := hf04.size
      refine hag (i + 1) x' w5 (by omega) (by omega) ⟨Ch.trans hf04 hc5 fun q hq hx => by have := hfx2 q hx; omega, by rw [pickTo, if_pos g]; exact hs5, fun q hq => ?_⟩
      rcases hl5 with e | ⟨q', e, hle⟩
      · exact hfx2 q (by rw [← e]; exact hq)
      · rw [hq] at e; cases e; omega
    · rw [if_neg g]
      simp only [binV_add, pVal_some, hwi]
      exact hag (i + 1) x w3 (by omega) (by omega) ⟨hf2.trans hf3, by rw [pickTo, if_neg g, List.append_nil]; exact hx2.fr hf3, hfx2⟩
  · have hlt' : ¬ (i : Int) < (s.ent.blocks.length : Int) := by unfold StoreM.len at hlt; omega
    simp only [binV_lss, pVal_some, hlt', decide_false, pIf_bool, Bool.false_eq_true, if_false]
    obtain rfl : i = s.len := by omega
    exact k w2 x hf2 hx2 hfx2
theorem Store_needed {i : Int} (h : SRep w γ A c b a s) (k : ∀ w' v, Fr w w' → Ints w' v (sNeeded a s i) → Fresh w v → K v w') : pCall P 236 [ptr b 0, i64 i] K w := by
  refine c236 ?_
  unfold G236
  have hpg := h.pages
  refine Store_pages h fun w1 hf1 => ?_
  unfold sNeeded at k
  obtain ⟨p, hp⟩ : ∃ p : Nat → Bool, p = fun p : Nat => decide (0 ≤ s.tab.place i (p : Int)) := ⟨_, rfl⟩
  rw [← hp] at k
  obtain ⟨N, hN⟩ : ∃ N : Nat, a.g.pages = N := ⟨a.g.pages.toNat, by omega⟩
  rw [hN] at k ⊢
  rw [Int.toNat_natCast] at k
  refine loop2_upR 0 N (fun q x w' => Fr w w' ∧ Ints w' x (pickTo p q) ∧ Fresh w x) (by omega) ⟨hf1, Sl.nil _ cI_len, Fresh.nil _⟩ ?_
  rintro q x w2 ag hag _ hq ⟨hf2, hx2, hfx2⟩
  have hwi : IntKind.i64.wrap ((q : Int) + 1) = ((q + 1 : Nat) : Int) := wrap_succ (by omega)
  have hcl := pickTo_len p q
  by_cases hlt : q < N
  rotate_left
  · have hlt' : ¬ (q : Int) < (N : Int) := by omega
    simp only [binV_lss, pVal_some, hlt', decide_false, pIf_bool, Bool.false_eq_true, if_false]
    obtain rfl : q = N := by omega
    exact k w2 x hf2 hx2 hfx2
  have hlt' : (q : Int) < (N : Int) := by omega
  simp only [binV_lss, pVal_some, hlt', decide_true, pIf_bool, if_true]
  have h2 := h.fr hf2
  obtain ⟨bv, tb, wb, h3, h4, h5, h6, h7⟩ := h2.st.mem
  simp
  refine pLd1 h3 lay_171 rfl ?_
  refine Table_Place h6 ?_
  simp only [binV_geq, pVal_some, pIf_bool, decide_eq_true_eq]
  have hpq : p q = decide (0 ≤ s.tab.place i q) := by rw [hp]
  by_cases g : 0 ≤ s.tab.place i q
  · rw [if_pos g]
    refine pRowN [(q : Int)] sli_int cI_len rfl (by omega) (rowV_int _ trivial) fun rv w4 hs4 hf4 hr4 => ?_
    refine pAppend sli_int (hx2.fr hf4) hs4 cI_one (by simp; omega) (by omega) fun x' w5 hs5 hc5 hl5 => ?_
    simp only [binV_add, pVal_some, hwi]
    have hf04 := hf2.trans hf4
    have s4 := hf04.size
    refine hag (q + 1) x' w5 (by omega) (by omega) ⟨Ch.trans hf04 hc5 fun q hq hx => by have := hfx2 q hx; omega, by rw [pickTo, if_pos (by rw [hpq]; simpa using g)]; exact hs5, fun q hq => ?_⟩
    rcases hl5 with e | ⟨q', e, hle⟩
    · exact hfx2 q (by rw [← e]; exact hq)
    · rw [hq] at e; cases e; omega
  · rw [if_neg g]
    simp only [binV_add, pVal_some, hwi]
    exact hag (q + 1) x w2 (by omega) (by omega) ⟨hf2, by rw [pickTo, if_neg (by rw [hpq]; simpa using g), List.append_nil]; exact hx2, hfx2⟩
theorem Store_ReadOnly (h : SRep w γ A c b a s) (k : K (.bool s.only) w) : pCall P 58 [ptr b 0] K w := by
  refine c58 ?_
  unfold G58
  obtain ⟨bv, tb, wb, h3, h4, h5, h6, h7⟩ := h.st.mem
  rw [binV_ptr_eql (by simp), pVal_some]
  simp
  exact pLd1 h3 lay_4 (v := .bool s.only) rfl k
theorem Store_Waiting (h : SRep w γ A c b a s) (k : K (i64 s.wait.length) w) : pCall P 60 [ptr b 0] K w := by
  refine c60 ?_
  unfold G60
  obtain ⟨bv, tb, wb, h3, h4, h5, h6, h7⟩ := h.st.mem
  rw [binV_ptr_eql (by simp), pVal_some]
  simp
  exact pLd1 h3 lay_172 (v := ptr wb 0) rfl (Buffer_Len h7 k)
def StoreM.placeE (s : StoreM) (p : Int) : Int := if p < 0 ∨ s.ent.size ≤ p then 5 else 0
theorem Store_place {p : Int} (h : SRep w γ A c b a s) (k : K (i64 (s.placeE p)) w) : pCall P 118 [ptr b 0, i64 p] K w := by
  refine c118 ?_
  unfold G118
  obtain ⟨bv, tb, wb, h3, h4, h5, h6, h7⟩ := h.st.mem
  unfold StoreM.placeE at k
  rw [binV_ptr_eql (by simp), pVal_some]
  by_cases g : p < 0
  · simp [g] at k ⊢; exact k
  simp [g] at k ⊢
  refine pLd1 h3 lay_3 (v := i64 s.ent.size) rfl ?_
  simp
  by_cases g2 : s.ent.size ≤ p
  · simp [g2] at k ⊢; exact k
  · simp [g2] at k ⊢; exact k
end
end Go.Al

namespace Go.Al
open Go Go.Proofs
structure SameBad (a a' : ArrM) : Prop where
  g : a'.g = a.g
  len : a'.bl.length = a.bl.length
  bad : ∀ i, a'.bad i = a.bad i
theorem SameBad.refl (a : ArrM) : SameBad a a := ⟨rfl, rfl, fun _ => rfl⟩
theorem SameBad.trans {a a' a'' : ArrM} (h : SameBad a a') (h' : SameBad a' a'') : SameBad a a'' := ⟨h'.g.trans h.g, h'.len.trans h.len, fun i => (h'.bad i).trans (h.bad i)⟩
theorem setBlk_blk {a : ArrM} {i j : Int} {x y : BlockM} (h : a.blk i = some x) : (a.setBlk i y).blk j = if j = i then some y else a.blk j := by
  unfold ArrM.blk at h ⊢
  split at h
  · cases h
  · rename_i hi
    have hl := (List.getElem?_eq_some_iff.1 h).1
    by_cases hj : j < 0
    · rw [if_pos hj, if_neg (by omega), if_pos hj]
    · rw [if_neg hj]
      by_cases hji : j = i
      · subst hji
        rw [if_pos rfl]
        simp [ArrM.setBlk, hl]
      · rw [if_neg hji, if_neg hj]
        simp only [ArrM.setBlk]
        rw [List.getElem?_set_ne (by omega)]
theorem setBlk_same {a : ArrM} {i : Int} {x y : BlockM} (h : a.blk i = some x) (hb : y.bad = x.bad) : SameBad a (a.setBlk i y) := by
  refine ⟨rfl, by simp [ArrM.setBlk], fun j => ?_⟩
  unfold ArrM.bad
  rw [setBlk_blk h]
  by_cases hj : j = i
  · subst hj; rw [if_pos rfl, h]; exact hb
  · rw [if_neg hj]
theorem spend_same (a : ArrM) (who : Int) : SameBad a (a.spend who).2 := ⟨rfl, rfl, fun _ => rfl⟩
theorem tear_bad (x : BlockM) (i : Nat) : (x.tear i).bad = x.bad := by unfold BlockM.tear; split <;> rfl
theorem program_same (a : ArrM) (who b i : Int) (s d : List UInt8) : SameBad a (a.program who b i s d).2 := by
  unfold ArrM.program
  split
  · exact SameBad.refl a
  · rename_i x hx
    have hx' : (a.spend who).2.blk b = some x := hx
    split
    · exact SameBad.refl a
    split
    · exact SameBad.refl a
    split
    · exact SameBad.refl a
    split
    · exact SameBad.refl a
    split
    · exact spend_same a who
    split
    · exact (spend_same a who).trans (setBlk_same hx' (tear_bad _ _))
    split
    · exact (spend_same a who).trans (setBlk_same hx' (tear_bad _ _))
    · exact (spend_same a who).trans (setBlk_same hx' rfl)
theorem erase_same (a : ArrM) (who b : Int) : SameBad a (a.erase who b).2 := by
  unfold ArrM.erase
  split
  · exact SameBad.refl a
  · rename_i x hx
    have hx' : (a.spend who).2.blk b = some x := hx
    split
    · exact SameBad.refl a
    split
    · exact spend_same a who
    split
    · exact (spend_same a who).trans (setBlk_same hx' rfl)
    split
    · exact (spend_same a who).trans (setBlk_same hx' rfl)
    · exact (spend_same a who).trans (setBlk_same hx' rfl)
theorem mark_fail {a : ArrM} {b : Int} (h : (a.mark b).1 ≠ 0) : SameBad a (a.mark b).2 := by
  unfold ArrM.mark at h ⊢
  split at h
  · exact SameBad.refl a
  · rename_i x hx
    split at h
    · rename_i g; rw [if_pos g]; exact SameBad.refl a
    · rename_i g
      split at h
      · rename_i g2; rw [if_neg g, if_pos g2]; exact ⟨rfl, rfl, fun _ => rfl⟩
      · exact absurd rfl h
theorem mark_done {a : ArrM} {b : Int} (h : (a.mark b).1 = 0) : 0 ≤ b ∧ b < a.bl.length ∧ (a.mark b).2.g = a.g ∧ (a.mark b).2.bl.length = a.bl.length ∧ ∀ i, (a.mark b).2.bad i = (a.bad i || decide (i = b)) := by
  unfold ArrM.mark at h ⊢
  split at h
  · cases h
  · rename_i x hx
    split at h
    · cases h
    · rename_i g
      split at h
      · cases h
      · rename_i g2
        rw [if_neg g, if_neg g2]
        have hx' : ({ a with pw := a.pw.spend.2 } : ArrM).blk b = some x := hx
        refine ⟨by omega, ?_, rfl, by simp [ArrM.setBlk], fun i => ?_⟩
        · unfold ArrM.blk at hx
          split at hx
          · cases hx
          · have := (List.getElem?_eq_some_iff.1 hx).1; omega
        · unfold ArrM.bad
          rw [setBlk_blk hx']
          by_cases hi : i = b
          · subst hi; rw [if_pos rfl]; simp
          · rw [if_neg hi, decide_eq_false hi, Bool.or_false]; rfl
def ArrM.good (a : ArrM) : Nat := countTo (fun i => !a.bad i) a.bl.length
theorem countTo_congr {p q : Nat → Bool} : ∀ {n : Nat}, (∀ i, i < n → p i = q i) → countTo p n = countTo q n
  | 0, _ => rfl
  | n + 1, h => by unfold countTo; rw [countTo_congr fun i hi => h i (by omega), h n (by omega)]
theorem countTo_mono {p q : Nat → Bool} : ∀ {n : Nat}, (∀ i, i < n → p i = true → q i = true) → countTo p n ≤ countTo q n
  | 0, _ => Nat.le_refl _
  | n + 1, h => by
    have := countTo_mono (n := n) fun i hi => h i (by omega)
    have h2 := h n (by omega)
    unfold countTo
    by_cases g : p n = true
    · rw [if_pos g, if_pos (h2 g)]; omega
    · rw [if_neg g]; omega
theorem countTo_lt {p q : Nat → Bool} {j : Nat} : ∀ {n : Nat}, (∀ i, i < n → p i = true → q i = true) → j < n → p j = false → q j = true → countTo p n < countTo q n
  | 0, _, h, _, _ => by omega
  | n + 1, h, hj, h1, h2 => by
    unfold countTo
    by_cases hjn : j = n
    · subst hjn
      have := countTo_mono (n := j) fun i hi => h i (by omega)
      rw [if_neg (by simp [h1]), if_pos h2]; omega
    · have := countTo_lt (n := n) (fun i hi => h i (by omega)) (by omega) h1 h2
      have h3 := h n (by omega)
      by_cases g : p n = true
      · rw [if_pos g, if_pos (h3 g)]; omega
      · rw [if_neg g]; omega
theorem SameBad.good {a a' : ArrM} (h : SameBad a a') : a'.good = a.good := by
  unfold ArrM.good
  rw [h.len]
  exact countTo_congr fun i _ => by rw [h.bad]
theorem mark_good {a : ArrM} {b : Int} (h : (a.mark b).1 = 0) (hb : a.bad b = false) : (a.mark b).2.good < a.good := by
  obtain ⟨h0, h1, _, h3, h4⟩ := mark_done h
  unfold ArrM.good
  rw [h3]
  refine countTo_lt (j := b.toNat) (fun i _ hi => ?_) (by omega) ?_ ?_
  · rw [h4] at hi; simp at hi ⊢; exact hi.1
  · rw [h4]
    have : ((b.toNat : Nat) : Int) = b := by omega
    simp [this]
  · have : ((b.toNat : Nat) : Int) = b := by omega
    simp [this, hb]
theorem mark_good_le (a : ArrM) (b : Int) : (a.mark b).2.good ≤ a.good := by
  by_cases h : (a.mark b).1 = 0
  · obtain ⟨h0, h1, _, h3, h4⟩ := mark_done h
    unfold ArrM.good
    rw [h3]
    exact countTo_mono fun i _ hi => by rw [h4] at hi; simp at hi ⊢; exact hi.1
  · rw [(mark_fail h).good]; exact Nat.le_refl _
structure SInv (a : ArrM) (s : StoreM) : Prop where
  ok : s.ok
  nodup : s.ent.blocks.Nodup
  spares : 0 ≤ sSpares a s
  front : s.front = -1 ∨ sBad a s s.front = false
theorem SameBad.sBad {a a' : ArrM} (h : SameBad a a') (s : StoreM) (i : Int) : sBad a' s i = sBad a s i := h.bad _
theorem SameBad.spares {a a' : ArrM} (h : SameBad a a') (s : StoreM) : sSpares a' s = sSpares a s := by
  unfold sSpares sBadN
  rw [countTo_congr fun i _ => h.sBad s i]
theorem SameBad.inv {a a' : ArrM} (h : SameBad a a') {s : StoreM} (hi : SInv a s) : SInv a' s :=
  ⟨hi.ok, hi.nodup, by rw [h.spares]; exact hi.spares, by rw [h.sBad]; exact hi.front⟩
theorem countTo_one {p q : Nat → Bool} {j : Nat} : ∀ {n : Nat}, (∀ i, i < n → i ≠ j → p i = q i) → countTo p n ≤ countTo q n + 1
  | 0, _ => by simp [countTo]
  | n + 1, h => by
    unfold countTo
    by_cases hjn : n = j
    · have : countTo p n = countTo q n := countTo_congr fun i hi => h i (by omega) (by omega)
      rw [this]
      split <;> split <;> omega
    · have := countTo_one (n := n) fun i hi hj => h i (by omega) hj
      rw [h n (by omega) hjn]
      omega
theorem nodup_blk {s : StoreM} (hn : s.ent.blocks.Nodup) {i j : Nat} (hi : i < s.len) (hj : j < s.len) (h : s.blk i = s.blk j) : i = j := by
  rw [StoreM.blk_in hi, StoreM.blk_in hj] at h
  exact (List.getElem_inj hn).1 h
theorem mark_spares {a : ArrM} {s : StoreM} (hn : s.ent.blocks.Nodup) {i : Nat} (hi : i < s.len) : sSpares a s - 1 ≤ sSpares (a.mark (s.blk i)).2 s := by
  by_cases h : (a.mark (s.blk i)).1 = 0
  · obtain ⟨h0, h1, _, h3, h4⟩ := mark_done h
    unfold sSpares sBadN
    have := countTo_one (p := fun j => sBad (a.mark (s.blk i)).2 s j) (q := fun j => sBad a s j) (j := i) (n := s.len) fun j hj hji => by
      unfold sBad
      rw [h4]
      have : ¬ s.blk j = s.blk i := fun e => hji (nodup_blk hn hj hi e)
      simp [this]
    omega
  · rw [(mark_fail h).spares]; omega
theorem mark_other {a : ArrM} {s : StoreM} (hn : s.ent.blocks.Nodup) {i j : Nat} (hi : i < s.len) (hj : j < s.len) (hij : j ≠ i) : sBad (a.mark (s.blk i)).2 s j = sBad a s j := by
  by_cases h : (a.mark (s.blk i)).1 = 0
  · obtain ⟨h0, h1, _, h3, h4⟩ := mark_done h
    unfold sBad
    rw [h4]
    have : ¬ s.blk j = s.blk i := fun e => hij (nodup_blk hn hj hi e)
    simp [this]
  · exact (mark_fail h).sBad s j
theorem mark_g (a : ArrM) (b : Int) : (a.mark b).2.g = a.g := by
  by_cases h : (a.mark b).1 = 0
  · exact (mark_done h).2.2.1
  · exact (mark_fail h).g
structure SOut where
  e : Int
  a : ArrM
  s : StoreM
def sEnd (a : ArrM) (s : StoreM) : SOut := ⟨13, a, { s with only := true }⟩
def sSpoil (a : ArrM) (s : StoreM) (i beside : Int) : SOut :=
  if sSpares a s ≤ beside then sEnd a s else ⟨(a.mark (s.blk i)).1, (a.mark (s.blk i)).2, s⟩
def sCopy (who : Int) (blocks : List Int) (from_ to : Int) : List Int → Nat → ArrM → Int × ArrM
  | [], _, a => (0, a)
  | p :: ps, at_, a =>
    if (scanOne a blocks from_ p).e ≠ 0 then ((scanOne a blocks from_ p).e, a) else
    if (tagBytes { (scanOne a blocks from_ p).f.tag with copy := true }).1 ≠ 0 then ((tagBytes { (scanOne a blocks from_ p).f.tag with copy := true }).1, a) else
    let q := a.program who ((blocks[to.toNat]?).getD 0) at_ (tagBytes { (scanOne a blocks from_ p).f.tag with copy := true }).2 (scanOne a blocks from_ p).f.data
    if q.1 ≠ 0 then q else sCopy who blocks from_ to ps (at_ + 1) q.2
def moveTab (from_ to : Int) : List Int → Nat → TableM → TableM
  | [], _, t => t
  | p :: ps, at_, t => moveTab from_ to ps (at_ + 1) (t.set (t.place from_ p) to at_).2
def moveGo (pages : List Int) (from_ beside : Int) : Nat → ArrM → StoreM → SOut
  | 0, a, s => ⟨8, a, s⟩
  | n + 1, a, s =>
    match sFree a s with
    | [] => ⟨8, a, s⟩
    | to :: _ =>
      let q := sCopy s.who s.ent.blocks from_ to pages 0 a
      if q.1 = 0 then ⟨0, q.2, { s with tab := moveTab from_ to pages 0 s.tab, front := to }⟩ else
      if q.1 = 10 then
        let p := sSpoil q.2 s to beside
        if p.e ≠ 0 then p else moveGo pages from_ beside n p.a p.s
      else ⟨q.1, q.2, s⟩
def sMove (a : ArrM) (s : StoreM) (from_ beside : Int) : SOut := moveGo (sNeeded a s from_) from_ beside (a.good + 1) a s
def sErase (a : ArrM) (s : StoreM) (i : Int) : SOut :=
  let q := a.erase s.who (s.blk i)
  if q.1 = 10 then sSpoil q.2 s i 0 else ⟨q.1, q.2, s⟩
def sCollect (a : ArrM) (s : StoreM) (i : Int) : SOut :=
  let m := sMove a s i 0
  if m.e ≠ 0 then m else sErase m.a m.s i
def sLose (a : ArrM) (s : StoreM) : SOut :=
  if sSpares a s < 1 then sEnd a s else
  let m := sMove a s s.front 1
  if m.e ≠ 0 then m else ⟨(m.a.mark (m.s.blk s.front)).1, (m.a.mark (m.s.blk s.front)).2, m.s⟩
def sWorth (a : ArrM) (s : StoreM) : List Int := (List.range s.len).map fun i : Nat => if sBad a s i = false ∧ 0 < sNext a s i ∧ s.tab.worthOf i < a.g.pages then s.tab.worthOf i else -1
def sRoom (a : ArrM) (s : StoreM) : SOut :=
  if s.front ≠ -1 ∧ (sNext a s s.front : Int) < a.g.pages then ⟨0, a, s⟩ else
  if 1 + sSpares a s < (sFree a s).length then ⟨0, a, { s with front := ((sFree a s)[0]?).getD 0 }⟩ else
  if greedy (sWorth a s) < 0 then ⟨8, a, s⟩ else sCollect a s (greedy (sWorth a s))
def putGo (c : ChM) : Nat → ArrM → StoreM → SOut
  | 0, a, s => ⟨8, a, s⟩
  | n + 1, a, s =>
    let r := sRoom a s
    if r.e ≠ 0 then r else
    let t := tagBytes ⟨r.s.who, r.s.ent.epoch, c.place, r.s.seq, c.kind, false⟩
    if t.1 ≠ 0 then ⟨t.1, r.a, r.s⟩ else
    let at_ := sNext r.a r.s r.s.front
    let q := r.a.program r.s.who (r.s.blk r.s.front) at_ t.2 c.data
    if q.1 = 0 then ⟨(r.s.tab.set c.place r.s.front at_).1, q.2, { r.s with seq := r.s.seq + 1, tab := (r.s.tab.set c.place r.s.front at_).2 }⟩ else
    if q.1 = 10 then
      let l := sLose q.2 r.s
      if l.e ≠ 0 then l else putGo c n l.a l.s
    else ⟨q.1, q.2, r.s⟩
def sPut (a : ArrM) (s : StoreM) (c : ChM) : SOut := putGo c (a.good + 1) a s
/-- Beside its own marks, its table, its order, its front, a store is as it was. -/
structure SLike (s s' : StoreM) : Prop where
  who : s'.who = s.who
  ent : s'.ent = s.ent
  wait : s'.wait = s.wait
theorem SLike.refl (s : StoreM) : SLike s s := ⟨rfl, rfl, rfl⟩
theorem SLike.trans {s s' s'' : StoreM} (h : SLike s s') (h' : SLike s' s'') : SLike s s'' := ⟨h'.who.trans h.who, h'.ent.trans h.ent, h'.wait.trans h.wait⟩
/-- An operation: the array's build is as it was, its blocks that are good are no more, the store is alike; if so many spares were left, so many are. -/
structure SStep (b : Int) (a : ArrM) (s : StoreM) (r : SOut) : Prop where
  g : r.a.g = a.g
  len : r.a.bl.length = a.bl.length
  good : r.a.good ≤ a.good
  like : SLike s r.s
  inv : SInv r.a r.s
  spares : b ≤ sSpares r.a r.s
theorem sEnd_step {b : Int} {a : ArrM} {s : StoreM} (hi : SInv a s) (hb : b ≤ sSpares a s) : SStep b a s (sEnd a s) :=
  ⟨rfl, rfl, Nat.le_refl _, ⟨rfl, rfl, rfl⟩, ⟨⟨hi.ok.len, hi.ok.front, hi.ok.spare⟩, hi.nodup, hi.spares, hi.front⟩, hb⟩
theorem sSpoil_step {b beside : Int} {a : ArrM} {s : StoreM} {i : Nat} (hi : SInv a s) (hil : i < s.len) (hb0 : 0 ≤ b) (hb : b ≤ beside) (hsp : b ≤ sSpares a s) (hf : s.front ≠ i) : SStep b a s (sSpoil a s i beside) := by
  unfold sSpoil
  split
  · exact sEnd_step hi hsp
  · rename_i hgt
    have h1 := mark_spares (a := a) hi.nodup hil
    have hlen : (a.mark (s.blk i)).2.bl.length = a.bl.length := by
      by_cases h : (a.mark (s.blk i)).1 = 0
      · exact (mark_done h).2.2.2.1
      · exact (mark_fail h).len
    refine ⟨mark_g _ _, hlen, mark_good_le _ _, SLike.refl s, ⟨hi.ok, hi.nodup, by simp only; omega, ?_⟩, by simp only; omega⟩
    rcases hi.front with h | h
    · exact .inl h
    · by_cases hm : s.front = -1
      · exact .inl hm
      · right
        have := hi.ok.front
        obtain ⟨j, hj⟩ : ∃ j : Nat, s.front = j := ⟨s.front.toNat, by omega⟩
        rw [hj] at h ⊢
        rw [mark_other hi.nodup hil (by unfold StoreM.len; omega) (fun e => hf (by rw [hj, e]))]
        exact h
theorem sCopy_same (who : Int) (blocks : List Int) (from_ to : Int) : ∀ (ps : List Int) (at_ : Nat) (a : ArrM), SameBad a (sCopy who blocks from_ to ps at_ a).2
  | [], _, a => SameBad.refl a
  | p :: ps, at_, a => by
    unfold sCopy
    split
    · exact SameBad.refl a
    split
    · exact SameBad.refl a
    · dsimp only
      split
      · exact program_same _ _ _ _ _ _
      · exact (program_same _ _ _ _ _ _).trans (sCopy_same who blocks from_ to ps _ _)
theorem sFree_mem {a : ArrM} {s : StoreM} {x : Int} (h : x ∈ sFree a s) : ∃ i : Nat, x = i ∧ i < s.len ∧ s.front ≠ i ∧ sBad a s i = false := by
  obtain ⟨i, h1, h2, h3⟩ := pickTo_mem _ _ x h
  refine ⟨i, h1, h2, ?_, ?_⟩
  · simp at h3; exact fun e => h3.1 e.symm
  · simp [sBlank] at h3; exact h3.2.1
/-- A move: it goes on only where a block was marked. -/
theorem moveGo_step {pages : List Int} {from_ beside b : Int} (hb0 : 0 ≤ b) (hb : b ≤ beside) : ∀ (n : Nat) (a : ArrM) (s : StoreM), SInv a s → b ≤ sSpares a s → SStep b a s (moveGo pages from_ beside n a s) ∧ ((moveGo pages from_ beside n a s).e = 0 → a.good < n → ∃ i : Nat, (moveGo pages from_ beside n a s).s.front = i ∧ i < s.len ∧ s.front ≠ i)
  | 0, a, s, hi, hsp => ⟨⟨rfl, rfl, Nat.le_refl _, SLike.refl s, hi, hsp⟩, fun h => by cases h⟩
  | n + 1, a, s, hi, hsp => by
    unfold moveGo
    split
    · exact ⟨⟨rfl, rfl, Nat.le_refl _, SLike.refl s, hi, hsp⟩, fun h => by cases h⟩
    · rename_i to rest hfree
      obtain ⟨i, rfl, hil, hif, hib⟩ := sFree_mem (a := a) (s := s) (x := to) (by rw [hfree]; exact List.mem_cons_self)
      dsimp only
      have hs := sCopy_same s.who s.ent.blocks from_ i pages 0 a
      generalize sCopy s.who s.ent.blocks from_ i pages 0 a = q at hs
      have hi' := hs.inv hi
      have hsp' : b ≤ sSpares q.2 s := by rw [hs.spares]; exact hsp
      split
      · refine ⟨⟨hs.g, hs.len, Nat.le_of_eq hs.good, ⟨rfl, rfl, rfl⟩, ⟨⟨hi.ok.len, ⟨by simp only; omega, by simp only; unfold StoreM.len at hil; omega⟩, hi.ok.spare⟩, hi.nodup, hi'.spares, .inr ?_⟩, hsp'⟩, fun _ _ => ⟨i, rfl, hil, hif⟩⟩
        have := hs.sBad s i
        rw [hib] at this
        exact this
      · split
        · have hp := sSpoil_step (b := b) (beside := beside) hi' hil hb0 hb hsp' hif
          split
          · refine ⟨⟨hp.g.trans hs.g, hp.len.trans hs.len, ?_, hp.like, hp.inv, hp.spares⟩, fun h => ?_⟩
            · have := hp.good; rw [hs.good] at this; exact this
            · rename_i h2; exact absurd h h2
          · rename_i he
            have he : (sSpoil q.2 s i beside).e = 0 := by simpa using he
            have hps : (sSpoil q.2 s i beside).s = s ∧ (sSpoil q.2 s i beside).a.good < a.good := by
              unfold sSpoil at he ⊢
              split at he
              · cases he
              · rename_i hgt
                rw [if_neg hgt]
                refine ⟨rfl, ?_⟩
                have := mark_good (a := q.2) (b := s.blk i) he (by have := hs.sBad s i; rw [hib] at this; exact this)
                rw [hs.good] at this
                exact this
            have ih := moveGo_step (pages := pages) (from_ := from_) hb0 hb n (sSpoil q.2 s i beside).a (sSpoil q.2 s i beside).s hp.inv hp.spares
            have hlike := hp.like
            generalize sSpoil q.2 s i beside = p at *
            obtain ⟨ih1, ih2⟩ := ih
            refine ⟨⟨ih1.g.trans (hp.g.trans hs.g), ih1.len.trans (hp.len.trans hs.len), ?_, hlike.trans ih1.like, ih1.inv, ih1.spares⟩, fun h hn => ?_⟩
            · have := ih1.good; omega
            · obtain ⟨j, h1, h2, h3⟩ := ih2 h (by omega)
              rw [hps.1] at h2 h3
              exact ⟨j, h1, h2, h3⟩
        · refine ⟨⟨hs.g, hs.len, Nat.le_of_eq hs.good, SLike.refl s, hi', hsp'⟩, fun h => ?_⟩
          rename_i h1 _; exact absurd h h1
theorem sMove_step {from_ beside b : Int} {a : ArrM} {s : StoreM} (hb0 : 0 ≤ b) (hb : b ≤ beside) (hi : SInv a s) (hsp : b ≤ sSpares a s) :
    SStep b a s (sMove a s from_ beside) ∧ ((sMove a s from_ beside).e = 0 → ∃ i : Nat, (sMove a s from_ beside).s.front = i ∧ i < s.len ∧ s.front ≠ i) := by
  have := moveGo_step (pages := sNeeded a s from_) (from_ := from_) hb0 hb (a.good + 1) a s hi hsp
  exact ⟨this.1, fun h => this.2 h (by omega)⟩
end Go.Al

namespace Go.Al
open Go Go.Proofs
theorem setBlk_other {a : ArrM} {i j : Int} {x y : BlockM} (h : a.blk i = some x) (hj : j ≠ i) : (a.setBlk i y).blk j = a.blk j := by rw [setBlk_blk h, if_neg hj]
theorem program_other {a : ArrM} {who b i j : Int} {s d : List UInt8} (hj : j ≠ b) : (a.program who b i s d).2.blk j = a.blk j := by
  unfold ArrM.program
  split
  · rfl
  · rename_i x hx
    have hx' : (a.spend who).2.blk b = some x := hx
    split
    · rfl
    split
    · rfl
    split
    · rfl
    split
    · rfl
    split
    · rfl
    split
    · rw [setBlk_other hx' hj]; rfl
    split
    · rw [setBlk_other hx' hj]; rfl
    · rw [setBlk_other hx' hj]; rfl
theorem mark_other_blk {a : ArrM} {b j : Int} (hj : j ≠ b) : (a.mark b).2.blk j = a.blk j := by
  unfold ArrM.mark
  split
  · rfl
  · rename_i x hx
    split
    · rfl
    split
    · rfl
    · have hx' : ({ a with pw := a.pw.spend.2 } : ArrM).blk b = some x := hx
      rw [setBlk_other hx' hj]; rfl
theorem tear_next {x : BlockM} {i : Nat} (h : i < x.pages.length) : (x.tear i).next = i + 1 := by
  unfold BlockM.tear
  rw [List.getElem?_eq_getElem h]
  rfl
/-- A page that failed stands there, torn. -/
theorem program_fail {a : ArrM} {who b i : Int} {s d : List UInt8} (h : (a.program who b i s d).1 = 10) (hb : a.bad b = false) : 0 < (a.program who b i s d).2.next b := by
  unfold ArrM.program at h ⊢
  split at h
  · cases h
  · rename_i x hx
    have hx' : (a.spend who).2.blk b = some x := hx
    have hxb : x.bad = false := by unfold ArrM.bad at hb; rw [hx] at hb; exact hb
    split at h
    · cases h
    rename_i g1
    rw [if_neg g1]
    split at h
    · cases h
    rename_i g2
    rw [if_neg g2]
    split at h
    · rename_i g; rw [hxb] at g; cases g
    rename_i g3
    rw [if_neg g3]
    split at h
    · cases h
    rename_i g4
    rw [if_neg g4]
    split at h
    · cases h
    rename_i g5
    rw [if_neg g5]
    split at h
    · cases h
    rename_i g6
    rw [if_neg g6]
    split at h
    · rename_i g7
      rw [if_pos g7]
      unfold ArrM.next
      rw [setBlk_blk hx', if_pos rfl]
      simp only
      rw [tear_next (by omega)]; omega
    · cases h
theorem sCopy_other {who : Int} {blocks : List Int} {from_ to : Int} {j : Int} (hj : j ≠ (blocks[to.toNat]?).getD 0) : ∀ (ps : List Int) (at_ : Nat) (a : ArrM), (sCopy who blocks from_ to ps at_ a).2.blk j = a.blk j
  | [], _, a => rfl
  | p :: ps, at_, a => by
    unfold sCopy
    split
    · rfl
    split
    · rfl
    · dsimp only
      split
      · exact program_other hj
      · rw [sCopy_other hj ps]; exact program_other hj
theorem sBlank_of_blk {a a' : ArrM} {s : StoreM} {i : Int} (h : a'.blk (s.blk i) = a.blk (s.blk i)) : sBlank a' s i = sBlank a s i := by
  unfold sBlank sBad ArrM.blank ArrM.bad
  rw [h]
theorem sFree_blank {a : ArrM} {s : StoreM} {x : Int} (h : x ∈ sFree a s) : sBlank a s x = true := by
  obtain ⟨i, h1, h2, h3⟩ := pickTo_mem _ _ x h
  subst h1
  simp at h3
  exact h3.2
/-- A block that isn't blank is no front behind a move. -/
theorem moveGo_front {pages : List Int} {beside : Int} {fi : Nat} : ∀ (n : Nat) (a : ArrM) (s : StoreM), s.ent.blocks.Nodup → fi < s.len → sBlank a s fi = false → (moveGo pages fi beside n a s).e = 0 →
    (moveGo pages fi beside n a s).s.front ≠ fi ∧ (moveGo pages fi beside n a s).a.blk (s.blk fi) = a.blk (s.blk fi)
  | 0, a, s, _, _, _, h => by cases h
  | n + 1, a, s, hn, hfi, hb, h => by
    unfold moveGo at h ⊢
    split at h
    · cases h
    · rename_i to rest hfree
      have hmem : to ∈ sFree a s := by rw [hfree]; exact List.mem_cons_self
      obtain ⟨i, rfl, hil, hif, hib⟩ := sFree_mem hmem
      have hbl := sFree_blank hmem
      have hne : i ≠ fi := fun e => by subst e; rw [hb] at hbl; cases hbl
      have hblk : s.blk fi ≠ s.blk i := fun e => hne (nodup_blk hn hfi hil e).symm
      dsimp only at h ⊢
      have hs := sCopy_other (who := s.who) (blocks := s.ent.blocks) (from_ := fi) (to := i) (j := s.blk fi) hblk pages 0 a
      have hsb := sCopy_same s.who s.ent.blocks fi i pages 0 a
      generalize sCopy s.who s.ent.blocks fi i pages 0 a = q at *
      have hb' : sBlank q.2 s fi = false := by rw [sBlank_of_blk hs]; exact hb
      split at h
      · rename_i g
        rw [if_pos g]
        exact ⟨fun e => hne (by simp only at e; omega), hs⟩
      · rename_i g
        rw [if_neg g]
        split at h
        · rename_i g2
          rw [if_pos g2]
          split at h
          · rename_i g3; exact absurd h g3
          · rename_i g3
            rw [if_neg g3]
            have g3 : (sSpoil q.2 s i beside).e = 0 := by simpa using g3
            have hps : (sSpoil q.2 s i beside).s = s ∧ (sSpoil q.2 s i beside).a.blk (s.blk fi) = q.2.blk (s.blk fi) := by
              unfold sSpoil at g3 ⊢
              split at g3
              · cases g3
              · rename_i hgt
                rw [if_neg hgt]
                exact ⟨rfl, mark_other_blk hblk⟩
            rw [hps.1] at h ⊢
            have ih := moveGo_front n _ s hn hfi (by rw [sBlank_of_blk hps.2]; exact hb') h
            exact ⟨ih.1, ih.2.trans (hps.2.trans hs)⟩
        · rename_i g2
          simp only at h; exact absurd h g
theorem sErase_step {b : Int} {a : ArrM} {s : StoreM} {i : Nat} (hi : SInv a s) (hil : i < s.len) (hb0 : 0 ≤ b) (hb : b ≤ 0) (hsp : b ≤ sSpares a s) (hf : s.front ≠ i) : SStep b a s (sErase a s i) := by
  unfold sErase
  have hs := erase_same a s.who (s.blk i)
  dsimp only
  generalize a.erase s.who (s.blk i) = q at *
  split
  · have hp := sSpoil_step (b := b) (beside := 0) (hs.inv hi) hil hb0 hb (by rw [hs.spares]; exact hsp) hf
    exact ⟨hp.g.trans hs.g, hp.len.trans hs.len, by have := hp.good; rw [hs.good] at this; exact this, hp.like, hp.inv, hp.spares⟩
  · exact ⟨hs.g, hs.len, Nat.le_of_eq hs.good, SLike.refl s, hs.inv hi, by rw [hs.spares]; exact hsp⟩
theorem SStep.then {b : Int} {a : ArrM} {s : StoreM} {r r' : SOut} (h : SStep b a s r) (h' : SStep b r.a r.s r') : SStep b a s r' :=
  ⟨h'.g.trans h.g, h'.len.trans h.len, Nat.le_trans h'.good h.good, h.like.trans h'.like, h'.inv, h'.spares⟩
theorem SLike.len {s s' : StoreM} (h : SLike s s') : s'.len = s.len := by unfold StoreM.len; rw [h.ent]
theorem SLike.blk {s s' : StoreM} (h : SLike s s') (i : Int) : s'.blk i = s.blk i := by unfold StoreM.blk; rw [h.ent]
theorem sCollect_step {a : ArrM} {s : StoreM} {i : Nat} (hi : SInv a s) (hil : i < s.len) (hb : sBlank a s i = false) : SStep 0 a s (sCollect a s i) := by
  unfold sCollect
  have hm := sMove_step (from_ := i) (beside := 0) (b := 0) (by omega) (by omega) hi hi.spares
  have hfr := moveGo_front (pages := sNeeded a s i) (beside := 0) (a.good + 1) a s hi.nodup hil hb
  dsimp only
  split
  · exact hm.1
  · rename_i he
    have he : (sMove a s i 0).e = 0 := by simpa using he
    have hf := (hfr he).1
    refine hm.1.then (sErase_step hm.1.inv (by rw [hm.1.like.len]; exact hil) (by omega) (by omega) hm.1.spares hf)
theorem sWorth_get {a : ArrM} {s : StoreM} {i : Nat} (h : i < s.len) : (sWorth a s)[i]? = some (if sBad a s i = false ∧ 0 < sNext a s i ∧ s.tab.worthOf i < a.g.pages then s.tab.worthOf i else -1) := by
  unfold sWorth
  rw [List.getElem?_map]
  simp [h]
theorem greedyTo_worth (ws : List Int) : ∀ n, 0 ≤ greedyTo ws n → 0 ≤ (ws[(greedyTo ws n).toNat]?).getD (-1)
  | 0, h => by simp [greedyTo] at h
  | n + 1, h => by
    unfold greedyTo at h ⊢
    simp only at h ⊢
    split at h
    · rename_i g
      rw [if_pos g]
      simpa using g.1
    · rename_i g
      rw [if_neg g]
      exact greedyTo_worth ws n h
theorem sWorth_len (a : ArrM) (s : StoreM) : (sWorth a s).length = s.len := by simp [sWorth]
/-- The victim: it is good, and not blank. -/
theorem greedy_victim {a : ArrM} {s : StoreM} (h : ¬ greedy (sWorth a s) < 0) : ∃ i : Nat, greedy (sWorth a s) = i ∧ i < s.len ∧ sBad a s i = false ∧ 0 < sNext a s i := by
  have h1 := greedyTo_lt (sWorth a s) (sWorth a s).length
  have h2 := greedyTo_worth (sWorth a s) (sWorth a s).length (by unfold greedy at h; omega)
  unfold greedy at h ⊢
  rw [sWorth_len] at *
  obtain ⟨i, hi⟩ : ∃ i : Nat, greedyTo (sWorth a s) s.len = i := ⟨(greedyTo (sWorth a s) s.len).toNat, by omega⟩
  rw [hi] at h1 h2 ⊢
  have hil : i < s.len := by omega
  rw [Int.toNat_natCast, sWorth_get hil] at h2
  refine ⟨i, rfl, hil, ?_⟩
  simp only [Option.getD_some] at h2
  split at h2
  · rename_i g; exact ⟨g.1, g.2.1⟩
  · omega
theorem next_not_blank {a : ArrM} {s : StoreM} {i : Int} (h : 0 < sNext a s i) : sBlank a s i = false := by
  unfold sNext ArrM.next at h
  unfold sBlank ArrM.blank
  cases hb : a.blk (s.blk i) with
  | none => rw [hb] at h; simp at h
  | some x =>
    rw [hb] at h
    simp only at h ⊢
    have : ¬ x.next = 0 := by omega
    simp [this]
theorem sRoom_step {a : ArrM} {s : StoreM} (hi : SInv a s) : SStep 0 a s (sRoom a s) ∧ ((sRoom a s).e = 0 → ∃ i : Nat, (sRoom a s).s.front = i ∧ i < s.len) := by
  unfold sRoom
  have hof := hi.ok.front
  split
  · rename_i g
    exact ⟨⟨rfl, rfl, Nat.le_refl _, SLike.refl s, hi, hi.spares⟩, fun _ => ⟨s.front.toNat, by simp only; omega, by unfold StoreM.len; omega⟩⟩
  split
  · rename_i g
    have hne : sFree a s ≠ [] := fun e => by
      have h0 := hi.spares
      rw [e] at g
      simp only [List.length_nil] at g; omega
    obtain ⟨to, rest, hfree⟩ := List.exists_cons_of_ne_nil hne
    obtain ⟨i, rfl, hil, hif, hib⟩ := sFree_mem (a := a) (s := s) (x := to) (by rw [hfree]; exact List.mem_cons_self)
    rw [hfree]
    simp only [List.getElem?_cons_zero, Option.getD_some]
    exact ⟨⟨rfl, rfl, Nat.le_refl _, ⟨rfl, rfl, rfl⟩, ⟨⟨hi.ok.len, ⟨by simp only; omega, by simp only; unfold StoreM.len at hil; omega⟩, hi.ok.spare⟩, hi.nodup, hi.spares, .inr hib⟩, hi.spares⟩, fun _ => ⟨i, rfl, hil⟩⟩
  split
  · exact ⟨⟨rfl, rfl, Nat.le_refl _, SLike.refl s, hi, hi.spares⟩, fun h => by cases h⟩
  · rename_i g
    obtain ⟨i, h1, h2, h3, h4⟩ := greedy_victim g
    rw [h1]
    refine ⟨sCollect_step hi h2 (next_not_blank h4), fun h => ?_⟩
    unfold sCollect at h ⊢
    have hm := sMove_step (from_ := i) (beside := 0) (b := 0) (by omega) (by omega) hi hi.spares
    dsimp only at h ⊢
    split at h
    · rename_i he; exact absurd h he
    · rename_i he
      rw [if_neg he]
      obtain ⟨j, q1, q2, q3⟩ := hm.2 (by simpa using he)
      have hes : (sErase (sMove a s i 0).a (sMove a s i 0).s i).s.front = (sMove a s i 0).s.front := by
        unfold sErase
        dsimp only
        split
        · unfold sSpoil
          split
          · rfl
          · rfl
        · rfl
      rw [hes]
      exact ⟨j, q1, q2⟩
theorem sLose_step {a : ArrM} {s : StoreM} {i : Nat} (hi : SInv a s) (hil : i < s.len) (hif : s.front = i) (hib : sBad a s i = false) (hb : sBlank a s i = false) :
    SStep 0 a s (sLose a s) ∧ ((sLose a s).e = 0 → (sLose a s).a.good < a.good) := by
  unfold sLose
  split
  · exact ⟨sEnd_step hi hi.spares, fun h => by cases h⟩
  · rename_i hsp
    rw [hif]
    have hm := sMove_step (from_ := i) (beside := 1) (b := 1) (by omega) (by omega) hi (by omega)
    have hfr := moveGo_front (pages := sNeeded a s i) (beside := 1) (a.good + 1) a s hi.nodup hil hb
    dsimp only
    split
    · rename_i he
      exact ⟨⟨hm.1.g, hm.1.len, hm.1.good, hm.1.like, hm.1.inv, by have := hm.1.spares; omega⟩, fun h => absurd h he⟩
    · rename_i he
      have he : (sMove a s i 1).e = 0 := by simpa using he
      have hfr := hfr he
      have hf : (sMove a s i 1).s.front ≠ i := hfr.1
      have hfr2 : (sMove a s i 1).a.blk (s.blk i) = a.blk (s.blk i) := hfr.2
      clear hfr
      generalize sMove a s i 1 = m at *
      obtain ⟨h1, h2⟩ := hm
      have hil' : i < m.s.len := by rw [h1.like.len]; exact hil
      have hmk := mark_spares (a := m.a) h1.inv.nodup hil'
      have hlen : (m.a.mark (m.s.blk i)).2.bl.length = m.a.bl.length := by
        by_cases h : (m.a.mark (m.s.blk i)).1 = 0
        · exact (mark_done h).2.2.2.1
        · exact (mark_fail h).len
      have hsp1 := h1.spares
      obtain ⟨j, hj, hjl, _⟩ := h2 he
      have hjl' : j < m.s.len := by rw [h1.like.len]; exact hjl
      refine ⟨⟨(mark_g _ _).trans h1.g, hlen.trans h1.len, Nat.le_trans (mark_good_le _ _) h1.good, h1.like, ⟨h1.inv.ok, h1.inv.nodup, by simp only; omega, .inr ?_⟩, by simp only; omega⟩, fun h => ?_⟩
      · have hfb := h1.inv.front
        simp only
        rw [hj] at hfb hf ⊢
        rw [mark_other h1.inv.nodup hil' hjl' (fun e => hf (by rw [e]))]
        rcases hfb with q | q
        · omega
        · exact q
      · simp only at h ⊢
        have hblk : m.a.blk (s.blk i) = a.blk (s.blk i) := hfr2
        have hmb : m.a.bad (m.s.blk i) = false := by
          rw [h1.like.blk]
          unfold sBad at hib
          unfold ArrM.bad at hib ⊢
          rw [hblk]; exact hib
        exact Nat.lt_of_lt_of_le (mark_good h hmb) h1.good
end Go.Al

namespace Go.Al
open Go Go.Proofs
/-- The least number of which something holds. -/
theorem least_of {p : Nat → Prop} : ∀ {n : Nat}, p n → ∃ m, p m ∧ ∀ k, k < m → ¬ p k := fun {n} h => by
  induction n using Nat.strongRecOn with
  | ind n ih =>
    by_cases hex : ∃ k, k < n ∧ p k
    · obtain ⟨k, hk, hp⟩ := hex
      exact ih k hk hp
    · exact ⟨n, h, fun k hk hp => hex ⟨k, hk, hp⟩⟩
open Classical in
noncomputable def leastN (p : Nat → Prop) : Nat := if h : ∃ n, p n ∧ ∀ k, k < n → ¬ p k then Classical.choose h else 0
theorem leastN_spec {p : Nat → Prop} {n : Nat} (h : p n) : p (leastN p) ∧ leastN p ≤ n := by
  have hex := least_of h
  unfold leastN
  rw [dif_pos hex]
  have hs := Classical.choose_spec hex
  refine ⟨hs.1, ?_⟩
  apply Classical.byContradiction
  intro hn
  exact hs.2 n (by omega) h
/-- A loop whose rounds are bounded by a number that the invariant bears. -/
theorem loop0_fuel {body : (World → Prop) → World → Prop} {w : World} (I : Nat → World → Prop) (n : Nat) (h : I n w)
    (k : ∀ n w ag, (∀ m w', m < n → I m w' → ag w') → I n w → body ag w) : pLoop0 body w := by
  refine pLoop0_of (fun w' => ∃ n, I n w') (fun w' => leastN fun n => I n w') ⟨n, h⟩ ?_
  rintro w1 ⟨n1, h1⟩
  obtain ⟨h2, _⟩ := leastN_spec (p := fun n => I n w1) h1
  refine k (leastN fun n => I n w1) w1 _ (fun m w' hm hI => ⟨⟨m, hI⟩, ?_⟩) h2
  have := (leastN_spec (p := fun n => I n w') hI).2
  omega
section
variable {w : World} {γ : Col} {A : ArrA} {c b : Nat} {a : ArrM} {s : StoreM} {K : Value → World → Prop}
/-- A store's parts, and how each is changed. -/
theorem SRep.parts (h : SRep w γ A c b a s) : ∃ bv tb wb, Blk w b 174 (stCells A.n s bv tb wb) ∧ Ints w bv s.ent.blocks ∧ (∀ x, live bv = some x → γ x = c + 1) ∧ TableR w γ (c + 10) tb s.tab ∧ BufferR w γ (c + 2) wb s.wait ∧
    (∀ w' γ' t', Keep (tabC (c + 10)) w γ w' γ' → TableR w' γ' (c + 10) tb t' → Keep (opC c) w γ w' γ' ∧ SRep w' γ' A c b a { s with tab := t' }) ∧
    (∀ w' l, Keep (fun y => y = c + 2) w γ w' γ → BufferR w' γ (c + 2) wb l → Keep (opC c) w γ w' γ ∧ SRep w' γ A c b a { s with wait := l }) ∧
    (∀ w' s', Ch (· = b) w w' → Blk w' b 174 (stCells A.n s' bv tb wb) → s'.ent.blocks = s.ent.blocks → s'.tab = s.tab → s'.wait = s.wait → s'.ok → Keep (opC c) w γ w' γ ∧ SRep w' γ A c b a s') := by
  obtain ⟨bv, tb, wb, h3, h4, h5, h6, h7⟩ := h.st.mem
  have hbig := h.st.big
  have hcol := h.st.col
  refine ⟨bv, tb, wb, h3, h4, h5, h6, h7, ?_, ?_, ?_⟩
  · intro w' γ' t' hk ht
    have hK : Keep (opC c) w γ w' γ' := hk.mono fun x hx => by unfold tabC at hx; exact .inr ⟨by omega, by omega⟩
    refine ⟨hK, hk.wf, h.arr.keep hk fun x h1 h2 h3 hx => by unfold tabC at hx; omega, ⟨hbig, (hk.col b h3.lt).trans hcol, ⟨h.st.ok.len, h.st.ok.front, h.st.ok.spare⟩, bv, tb, wb, ?_, ?_, ?_, ht, ?_⟩, h.pages⟩
    · exact hk.blk h3 (by rw [hcol]; unfold tabC; omega)
    · exact h4.ch hk.ch fun x hx => by rw [h5 x hx]; unfold tabC; omega
    · exact fun x hx => (hk.col x (h4.live_lt hx)).trans (h5 x hx)
    · exact h7.keep hk (by unfold tabC; omega)
  · intro w' l hk hb
    have hK : Keep (opC c) w γ w' γ := hk.mono fun x hx => by subst hx; exact .inr ⟨by omega, by omega⟩
    refine ⟨hK, hk.wf, h.arr.keep hk fun x h1 h2 h3 hx => by omega, ⟨hbig, hcol, ⟨h.st.ok.len, h.st.ok.front, h.st.ok.spare⟩, bv, tb, wb, ?_, ?_, h5, ?_, hb⟩, h.pages⟩
    · exact hk.blk h3 (by rw [hcol]; omega)
    · exact h4.ch hk.ch fun x hx => by rw [h5 x hx]; omega
    · exact h6.keep hk fun x hx => by unfold tabC at hx; omega
  · intro w' s' hc h3' e1 e2 e3 hok
    have hk : Keep (fun y => y = c) w γ w' γ := hc.keep h.wf fun x _ hx => by rw [hx]; exact hcol
    have hK : Keep (opC c) w γ w' γ := hk.mono fun x hx => by subst hx; exact .inr ⟨by omega, by omega⟩
    refine ⟨hK, hk.wf, h.arr.keep hk fun x h1 h2 h3 hx => by omega, ⟨hbig, hcol, hok, bv, tb, wb, h3', ?_, h5, ?_, ?_⟩, h.pages⟩
    · rw [e1]; exact h4.ch hk.ch fun x hx => by rw [h5 x hx]; omega
    · rw [e2]; exact h6.keep hk fun x hx => by unfold tabC at hx; omega
    · rw [e3]; exact h7.keep hk (by omega)
theorem SRep.arrK' {w' : World} {γ' : Col} {a' : ArrM} (h : SRep w γ A c b a s) (hk : Keep arrC w γ w' γ') (ha : ArrR w' γ' A a') (hg : a'.g = a.g) : Keep (opC c) w γ w' γ' ∧ SRep w' γ' A c b a' s :=
  ⟨hk.mono fun _ hx => .inl hx, h.arrK hk ha hg⟩
/-- The array alone was changed. -/
def AK (w : World) (γ : Col) (w' : World) : Prop := ∃ γ', Keep arrC w γ w' γ'
theorem AK.blk {w' : World} {b : Nat} {T : TypeId} {l : List Value} (h : AK w γ w') (hb : Blk w b T l) (hn : ¬ arrC (γ b)) : Blk w' b T l := by
  obtain ⟨γ', hk⟩ := h; exact hk.blk hb hn
theorem AK.fr {w' : World} (h : Fr w w') (hw : Wf w γ) : AK w γ w' := ⟨γ, h.keep hw⟩
/-- What an array's operation finds of a store, whatever the array did. -/
theorem SRep.held (h : SRep w γ A c b a s) : ∃ bv tb wb, (∀ w', AK w γ w' → Blk w' b 174 (stCells A.n s bv tb wb)) ∧ Ints w bv s.ent.blocks ∧ (∀ x, live bv = some x → γ x = c + 1) ∧
    ∀ i : Nat, i < s.len → ∃ ib io T l, indexV P 24 bv (i64 i) = some (ptr ib io) ∧ (∀ w', AK w γ w' → Blk w' ib T l) ∧ l[io]? = some (i64 (s.blk i)) := by
  obtain ⟨bv, tb, wb, h3, h4, h5, h6, h7⟩ := h.st.mem
  have hbig := h.st.big
  refine ⟨bv, tb, wb, fun w' hk => hk.blk h3 (by rw [h.st.col]; unfold arrC; omega), h4, h5, fun i hi => ?_⟩
  obtain ⟨ib, io, iT, il, hil, hib, hix, hio, hic, _⟩ := h4.at (P := P) (i := i) (x := s.ent.blocks[i]) (List.getElem?_eq_getElem hi) (by omega)
  exact ⟨ib, io, iT, il, hix _ _ idx_24, fun w' hk => hk.blk hib (by rw [h5 ib hil]; unfold arrC; omega), by rw [StoreM.blk_in hi]; exact take_one hic⟩
theorem Store_end (h : SRep w γ A c b a s) (k : ∀ w', Keep (opC c) w γ w' γ → SRep w' γ A c b a { s with only := true } → K (i64 13) w') : pCall P 241 [ptr b 0] K w := by
  refine c241 ?_
  unfold G241
  obtain ⟨bv, tb, wb, h3, h4, h5, h6, h7, _, _, hset⟩ := h.parts
  simp
  refine pSt1 h3 lay_4 rfl rfl (by simp [stCells]) fun w1 hc1 h1 => ?_
  have h1 : Blk w1 b 174 (stCells A.n { s with only := true } bv tb wb) := h1
  obtain ⟨hk, hr⟩ := hset w1 { s with only := true } hc1 h1 rfl rfl rfl ⟨h.st.ok.len, h.st.ok.front, h.st.ok.spare⟩
  exact k w1 hk hr
theorem Store_spoil {i : Nat} {beside : Int} (h : SRep w γ A c b a s) (hi : i < s.len) (k : ∀ w', Keep (opC c) w γ w' γ → SRep w' γ A c b (sSpoil a s i beside).a (sSpoil a s i beside).s → K (i64 (sSpoil a s i beside).e) w') :
    pCall P 210 [ptr b 0, i64 i, i64 beside] K w := by
  refine c210 ?_
  unfold G210
  refine Store_spares h fun w1 hf1 => ?_
  have h1 := h.fr hf1
  have hk1 : Keep (opC c) w γ w1 γ := hf1.keepS h
  simp only [binV_leq, pVal_some, pIf_bool, decide_eq_true_eq]
  unfold sSpoil at k
  by_cases g : sSpares a s ≤ beside
  · rw [if_pos g]
    simp only [if_pos g, sEnd] at k
    refine Store_end h1 fun w2 hk2 h2 => ?_
    exact k w2 (hk1.trans hk2 fun _ h => h) h2
  rw [if_neg g]
  simp only [if_neg g] at k
  obtain ⟨bv, tb, wb, h3, h4, h5, hat⟩ := h1.held
  obtain ⟨ib, io, iT, il, hix, hib, hic⟩ := hat i hi
  refine pDraw_fr (AK w1 γ) fun w2 hf2 hb2 hs2 => ⟨AK.fr hf2 h1.wf, ?_⟩
  simp
  refine pHld1 h3 lay_58 rfl ?_
  refine pHld1 h3 lay_24 (v := bv) rfl ?_
  rw [hix, pVal_some]
  refine pHld1 hib lay_3 hic ?_
  have h2 := h1.fr hf2
  refine Nand_Mark h2.wf h2.arr fun w3 hk3 ha3 => ?_
  rw [pKeep_true]
  have hk23 : Keep arrC w1 γ w3 γ := (hf2.keepS (C := arrC) h1).trans hk3 fun _ h => h
  refine ⟨⟨γ, hk23⟩, ?_⟩
  obtain ⟨hk, hr⟩ := h2.arrK' hk3 ha3 (mark_g _ _)
  exact k w3 (hk1.trans (hk23.mono fun _ hx => .inl hx) fun _ h => h) hr
theorem Store_erase {i : Nat} (h : SRep w γ A c b a s) (hi : i < s.len) (k : ∀ w', Keep (opC c) w γ w' γ → SRep w' γ A c b (sErase a s i).a (sErase a s i).s → K (i64 (sErase a s i).e) w') :
    pCall P 174 [ptr b 0, i64 i] K w := by
  refine c174 ?_
  unfold G174
  unfold sErase at k
  obtain ⟨bv, tb, wb, h3, h4, h5, hat⟩ := h.held
  obtain ⟨ib, io, iT, il, hix, hib, hic⟩ := hat i hi
  refine pDraw_fr (AK w γ) fun w2 hf2 hb2 hs2 => ⟨AK.fr hf2 h.wf, ?_⟩
  simp
  refine pHld1 h3 lay_58 rfl ?_
  refine pHld1 h3 lay_3 (v := i64 s.who) rfl ?_
  refine pHld1 h3 lay_24 (v := bv) rfl ?_
  rw [hix, pVal_some]
  refine pHld1 hib lay_3 hic ?_
  have h2 := h.fr hf2
  refine Nand_Erase h2.wf h2.arr fun w3 hk3 ha3 => ?_
  rw [pKeep_true]
  have hk03 : Keep arrC w γ w3 γ := (hf2.keepS (C := arrC) h).trans hk3 fun _ h => h
  refine ⟨⟨γ, hk03⟩, ?_⟩
  obtain ⟨hk, hr⟩ := h2.arrK' hk3 ha3 (erase_same _ _ _).g
  have hK : Keep (opC c) w γ w3 γ := hk03.mono fun _ hx => .inl hx
  dsimp only at k
  generalize a.erase s.who (s.blk i) = q at *
  simp only [binV_eql, pVal_some, pIf_bool, decide_eq_true_eq]
  by_cases g : q.1 = 10
  · rw [if_pos g]
    simp only [if_pos g] at k
    refine Store_spoil hr hi fun w4 hk4 h4 => ?_
    exact k w4 (hK.trans hk4 fun _ h => h) h4
  · rw [if_neg g]
    simp only [if_neg g] at k
    exact k w3 hK hr
theorem Store_copyInto {pages : List Int} {pv : Value} {fi ti : Nat} (h : SRep w γ A c b a s) (hti : ti < s.len) (hp : Ints w pv pages) (hpl : pages.length ≤ 1000) (hpc : ∀ x, live pv = some x → γ x = 0)
    (k : ∀ w' γ', Keep (opC c) w γ w' γ' → SRep w' γ' A c b (sCopy s.who s.ent.blocks fi ti pages 0 a).2 s → K (i64 (sCopy s.who s.ent.blocks fi ti pages 0 a).1) w') :
    pCall P 237 [ptr b 0, i64 fi, i64 ti, pv] K w := by
  refine c237 ?_
  unfold G237
  rw [hp.len (by simp), pVal_some]
  refine loop1_up pages.length (fun i w' => ∃ γ' a', Keep arrC w γ w' γ' ∧ SRep w' γ' A c b a' s ∧ Ints w' pv pages ∧ (∀ x, live pv = some x → γ' x = 0) ∧ sCopy s.who s.ent.blocks fi ti pages 0 a = sCopy s.who s.ent.blocks fi ti (pages.drop i) i a') ?_ ?_
  · exact ⟨γ, a, Keep.refl h.wf, h, hp, hpc, rfl⟩
  rintro i w1 ag hag hi ⟨γ1, a1, hk1, h1, hp1, hpc1, heq⟩
  have hwi : IntKind.i64.wrap ((i : Int) + 1) = ((i + 1 : Nat) : Int) := wrap_succ (by omega)
  have hK1 : Keep (opC c) w γ w1 γ1 := hk1.mono fun _ hx => .inl hx
  by_cases hlt : i < pages.length
  rotate_left
  · have hlt' : ¬ (i : Int) < (pages.length : Int) := by omega
    simp only [binV_lss, pVal_some, hlt', decide_false, pIf_bool, Bool.false_eq_true, if_false]
    rw [List.drop_of_length_le (by omega), sCopy] at heq
    rw [heq] at k
    exact k w1 γ1 hK1 h1
  have hlt' : (i : Int) < (pages.length : Int) := by omega
  simp only [binV_lss, pVal_some, hlt', decide_true, pIf_bool, if_true]
  have hdrop : pages.drop i = pages[i] :: pages.drop (i + 1) := List.drop_eq_getElem_cons hlt
  rw [hdrop, sCopy] at heq
  refine Ints.get hp1 hlt ?_
  obtain ⟨r, hr⟩ : ∃ r, r = scanOne a1 s.ent.blocks fi pages[i] := ⟨_, rfl⟩
  rw [← hr] at heq
  have hslen := h1.st.ok.len
  refine join2 (fun x y w' => ∃ fb, x = ptr fb 0 ∧ y = i64 r.e ∧ w1.heap.size ≤ fb ∧ Fr w1 w' ∧ Blk w' fb 184 r.f.cells) ?_ ?_
  rotate_left
  · intro J hJ
    obtain ⟨bv, tb, wb, h3, h4, h5, hat⟩ := h1.held
    have bb : ∀ w', Fr w1 w' → Blk w' b 174 (stCells A.n s bv tb wb) := fun w' hf => h3 w' (AK.fr hf h1.wf)
    refine pDraw_fr (fun w' => Fr w1 w') fun w2 hf2 _ _ => ⟨hf2, ?_⟩
    simp
    refine pHld1 bb lay_58 rfl ?_
    refine pHld1 bb lay_24 (v := bv) rfl ?_
    have hv2 := h4.fr hf2
    rw [pAnd_app]
    constructor
    · refine Scan_One (h1.fr hf2).wf (h1.fr hf2).arr hv2 (by omega) fun w3 hf3 => ?_
      rw [pKeep_true]
      have hf13 := hf2.trans hf3
      refine ⟨hf13, ?_⟩
      rw [← hr]
      simp only [extractV_tuple, List.getElem?_toArray, List.getElem?_cons_zero, List.getElem?_cons_succ, pVal_some]
      refine pAlloc_of FoundM.zero.cells zero_found rfl fun fb w4 hfb hfbl hf4 h4' => ?_
      try rw [pKeep_true]
      try refine ⟨hf13.trans hf4, ?_⟩
      have s13 := hf13.size
      refine pStAll h4' rfl lay_184 (vs := r.f.cells) (by simp [FoundM.val]) rfl rfl fun w5 hc5 h5' => ?_
      exact hJ _ _ _ ⟨fb, rfl, rfl, by omega, Ch.trans' (hf13.trans hf4) (by omega) hc5, h5'⟩
    · refine pAlloc_of FoundM.zero.cells zero_found rfl fun fb w4 hfb hfbl hf4 h4' => ?_
      rw [pKeep_true]
      refine ⟨hf2.trans hf4, ?_⟩
      have hf24 := hf2.trans hf4
      refine Scan_One (h1.fr hf24).wf (h1.fr hf24).arr (hv2.fr hf4) (by omega) fun w3 hf3 => ?_
      rw [pKeep_true]
      have hf13 := hf24.trans hf3
      refine ⟨hf13, ?_⟩
      rw [← hr]
      simp only [extractV_tuple, List.getElem?_toArray, List.getElem?_cons_zero, List.getElem?_cons_succ, pVal_some]
      have s2 := hf2.size
      refine pStAll (hf3.blk h4' fun h => h) rfl lay_184 (vs := r.f.cells) (by simp [FoundM.val]) rfl rfl fun w5 hc5 h5' => ?_
      exact hJ _ _ _ ⟨fb, rfl, rfl, by omega, Ch.trans' hf13 (by omega) hc5, h5'⟩
  rintro _ _ w2 ⟨fb, rfl, rfl, hfb, hf2, h2f⟩
  have h2 := h1.fr hf2
  have hk12 : Keep arrC w1 γ1 w2 γ1 := hf2.keepS h1
  have hk2 : Keep arrC w γ w2 γ1 := hk1.trans hk12 fun _ h => h
  have hp2 := hp1.fr hf2
  simp only [binV_neq, pVal_some, pIf_bool, Bool.not_eq_true', decide_eq_false_iff_not]
  by_cases ge : r.e = 0
  rotate_left
  · rw [if_pos ge]
    rw [if_pos ge] at heq
    rw [heq] at k
    exact k w2 γ1 (hk2.mono fun _ hx => .inl hx) h2
  rw [if_neg (by simpa using ge)]
  rw [if_neg (by simpa using ge)] at heq
  simp
  refine pSt1 h2f lay_4 rfl rfl (by rw [FoundM.len]; omega) fun w3 hc3 h3f => ?_
  obtain ⟨t, ht⟩ : ∃ t : TagM, t = { r.f.tag with copy := true } := ⟨_, rfl⟩
  have h3f : Blk w3 fb 184 (FoundM.cells { r.f with tag := t }) := by rw [ht]; exact h3f
  rw [← ht] at heq
  have hf13 : Fr w1 w3 := Ch.trans' hf2 (by omega) hc3
  refine pLdN t.cells h3f lay_182 (by rw [FoundM.len]; omega) rfl ?_
  refine Tag_Bytes (t := t) fun v4 w4 hs4 hf4 hr4 => ?_
  obtain ⟨tb', htb⟩ : ∃ tb', tb' = tagBytes t := ⟨_, rfl⟩
  rw [← htb] at heq hs4 ⊢
  have hf14 := hf13.trans hf4
  have h4s := h1.fr hf14
  have s13 := hf13.size
  simp only [extractV_tuple, List.getElem?_toArray, List.getElem?_cons_zero, List.getElem?_cons_succ, pVal_some, binV_neq, pIf_bool, Bool.not_eq_true', decide_eq_false_iff_not]
  have hk4 : Keep arrC w γ w4 γ1 := hk1.trans (hf14.keepS h1) fun _ h => h
  by_cases gt : tb'.1 = 0
  rotate_left
  · rw [if_pos gt]
    rw [if_pos gt] at heq
    rw [heq] at k
    exact k w4 γ1 (hk4.mono fun _ hx => .inl hx) h4s
  rw [if_neg (by simpa using gt)]
  rw [if_neg (by simpa using gt)] at heq
  dsimp only at heq
  obtain ⟨bv, tb, wb, h3, h4, h5, hat⟩ := h4s.held
  obtain ⟨ib, io, iT, il, hix, hib, hic⟩ := hat ti hti
  have hfb4 := hf4.blk h3f fun h => h
  have hfbl4 := hfb4.lt
  have hfbc : γ1 fb = 0 := h1.wf fb hfb
  refine pDraw_fr (AK w4 γ1) fun w5 hf5 hb5 hs5 => ⟨AK.fr hf5 h4s.wf, ?_⟩
  have hfbA : ∀ w', AK w4 γ1 w' → Blk w' fb 184 (FoundM.cells { r.f with tag := t }) := fun w' hA => hA.blk hfb4 (by rw [hfbc]; unfold arrC; omega)
  try simp
  refine pHld1 h3 lay_58 rfl ?_
  refine pHld1 h3 lay_3 (v := i64 s.who) rfl ?_
  refine pHld1 h3 lay_24 (v := bv) rfl ?_
  rw [hix, pVal_some]
  refine pHld1 hib lay_3 hic ?_
  try simp
  refine pHld1 hfbA lay_9 (v := sV r.f.data) rfl ?_
  have h5s := h4s.fr hf5
  have hv4c : ∀ x, live v4 = some x → γ1 x = 0 := fun x hx => h1.wf x (by have := hr4 x hx; omega)
  refine Nand_Program h5s.wf h5s.arr (hs4.fr hf5) hv4c fun w6 γ6 hk6 ha6 => ?_
  rw [pKeep_true]
  have hk46 : Keep arrC w4 γ1 w6 γ6 := (hf5.keepS (C := arrC) h4s).trans hk6 fun _ h => h
  refine ⟨⟨γ6, hk46⟩, ?_⟩
  obtain ⟨hkq, hrq⟩ := h5s.arrK' hk6 ha6 (program_same _ _ _ _ _ _).g
  have hblk : (s.ent.blocks[((ti : Nat) : Int).toNat]?).getD 0 = s.blk ti := rfl
  rw [hblk] at heq
  generalize a1.program s.who (s.blk ti) i tb'.2 r.f.data = q at *
  have hk06 : Keep arrC w γ w6 γ6 := hk4.trans hk46 fun _ h => h
  simp only [binV_neq, pVal_some, pIf_bool, Bool.not_eq_true', decide_eq_false_iff_not]
  by_cases gq : q.1 = 0
  rotate_left
  · rw [if_pos gq]
    rw [if_pos gq] at heq
    rw [heq] at k
    exact k w6 γ6 (hk06.mono fun _ hx => .inl hx) hrq
  rw [if_neg (by simpa using gq)]
  rw [if_neg (by simpa using gq)] at heq
  simp only [binV_add, pVal_some, hwi]
  have hpk : ∀ x, live pv = some x → ¬ arrC (γ x) := fun x hx => by rw [hpc x hx]; unfold arrC; omega
  exact hag (i + 1) w6 (by omega) (by omega) ⟨γ6, q.2, hk06, hrq, hp.ch hk06.ch hpk, fun x hx => (hk06.col x (hp.live_lt hx)).trans (hpc x hx), heq⟩
end
end Go.Al

namespace Go.Al
open Go Go.Proofs
section
variable {w : World} {γ : Col} {A : ArrA} {c b : Nat} {a : ArrM} {s : StoreM} {K : Value → World → Prop}
theorem Keep.c0 {C : Nat → Prop} {w w' : World} {γ γ' : Col} (h : Keep C w γ w' γ') {x : Nat} (hx : x < w.heap.size) (h0 : γ x = 0) : γ' x = 0 := (h.col x hx).trans h0
theorem opC0 (c : Nat) (hc : 1000 ≤ c) : ¬ opC c 0 := by unfold opC arrC stC; omega
/-- A slice of a call's own stays. -/
theorem Ints.own {C : Nat → Prop} {w w' : World} {γ γ' : Col} {v : Value} {xs : List Int} (h : Ints w v xs) (hc : ∀ x, live v = some x → γ x = 0) (hk : Keep C w γ w' γ') (hC : ¬ C 0) : Ints w' v xs ∧ ∀ x, live v = some x → γ' x = 0 :=
  ⟨h.ch hk.ch fun x hx => by rw [hc x hx]; exact hC, fun x hx => (hk.col x (h.live_lt hx)).trans (hc x hx)⟩
theorem Store_move {fi : Nat} {beside : Int} (h : SRep w γ A c b a s) (hi : SInv a s) (hfi : fi < s.len) (hb0 : 0 ≤ beside) (hsp : beside ≤ sSpares a s)
    (k : ∀ w' γ', Keep (opC c) w γ w' γ' → SRep w' γ' A c b (sMove a s fi beside).a (sMove a s fi beside).s → K (i64 (sMove a s fi beside).e) w') :
    pCall P 206 [ptr b 0, i64 fi, i64 beside] K w := by
  refine c206 ?_
  unfold G206
  have hbig := h.st.big
  refine Store_needed h fun w1 pv hf1 hpv1 hfr1 => ?_
  unfold sMove at k
  obtain ⟨pages, hpg⟩ : ∃ pages, pages = sNeeded a s fi := ⟨_, rfl⟩
  rw [← hpg] at k hpv1
  have hpl : pages.length ≤ 16 := by
    rw [hpg]; unfold sNeeded
    have := pickTo_len (fun p => decide (0 ≤ s.tab.place fi p)) a.g.pages.toNat
    have := h.pages; omega
  have h1 := h.fr hf1
  have hpc1 : ∀ x, live pv = some x → γ x = 0 := fun x hx => h.wf x (hfr1 x hx)
  obtain ⟨R, hR⟩ : ∃ R, R = moveGo pages fi beside (a.good + 1) a s := ⟨_, rfl⟩
  rw [← hR] at k
  refine loop0_fuel (fun n w' => ∃ γ' a' s', Keep (opC c) w γ w' γ' ∧ SRep w' γ' A c b a' s' ∧ SInv a' s' ∧ beside ≤ sSpares a' s' ∧ SLike s s' ∧ Ints w' pv pages ∧ (∀ x, live pv = some x → γ' x = 0) ∧ a'.good < n ∧ R = moveGo pages fi beside n a' s') (a.good + 1) ?_ ?_
  · exact ⟨γ, a, s, hf1.keepS h, h1, hi, hsp, SLike.refl s, hpv1, hpc1, by omega, hR⟩
  rintro n w2 ag hag ⟨γ2, a2, s2, hk2, h2, hi2, hsp2, hlk2, hpv2, hpc2, hgood, heq⟩
  obtain ⟨m, rfl⟩ : ∃ m, n = m + 1 := ⟨n - 1, by omega⟩
  have hfi2 : fi < s2.len := by rw [hlk2.len]; exact hfi
  refine Store_Free h2 fun w3 fv hf3 hfv3 hfr3 => ?_
  have h3 := h2.fr hf3
  have hk3 : Keep (opC c) w γ w3 γ2 := hk2.trans (hf3.keepS (C := opC c) h2) fun _ h => h
  rw [hfv3.len (by simp), pVal_some]
  unfold moveGo at heq
  cases hfree : sFree a2 s2 with
  | nil =>
    rw [hfree] at heq
    simp
    rw [heq] at k
    exact k w3 γ2 hk3 h3
  | cons to rest =>
    rw [hfree] at heq hfv3
    have hmem : to ∈ sFree a2 s2 := by rw [hfree]; exact List.mem_cons_self
    obtain ⟨ti, rfl, hti, htf, htb⟩ := sFree_mem hmem
    have hne : ¬ (((((ti : Int) :: rest : List Int).length : Nat) : Int) = 0) := by simp; omega
    simp only [binV_eql, pVal_some, hne, decide_false, pIf_bool, Bool.false_eq_true, if_false]
    refine Ints.get (i := 0) hfv3 (by simp) ?_
    simp only [List.getElem_cons_zero]
    dsimp only at heq
    have hpv3 := hpv2.fr hf3
    refine Store_copyInto h3 hti hpv3 (by omega) hpc2 fun w4 γ4 hk4 h4 => ?_
    have hs := sCopy_same s2.who s2.ent.blocks fi ti pages 0 a2
    obtain ⟨q, hq⟩ : ∃ q, q = sCopy s2.who s2.ent.blocks fi ti pages 0 a2 := ⟨_, rfl⟩
    rw [← hq] at heq h4 hs ⊢
    obtain ⟨hpv4, hpc4⟩ := Ints.own hpv3 hpc2 hk4 (opC0 c hbig)
    have hk04 := hk3.trans hk4 fun _ h => h
    simp only [binV_eql, pVal_some, pIf_bool, decide_eq_true_eq]
    by_cases g : q.1 = 0
    · rw [if_pos g]
      rw [if_pos g] at heq
      rw [hpv4.len (by simp), pVal_some]
      refine loop1_up pages.length (fun i w' => ∃ γ' t', Keep (opC c) w γ w' γ' ∧ SRep w' γ' A c b q.2 { s2 with tab := t' } ∧ Ints w' pv pages ∧ (∀ x, live pv = some x → γ' x = 0) ∧ moveTab fi ti pages 0 s2.tab = moveTab fi ti (pages.drop i) i t') ?_ ?_
      · exact ⟨γ4, s2.tab, hk04, h4, hpv4, hpc4, rfl⟩
      rintro i w5 ag2 hag2 hil ⟨γ5, t5, hk5, h5, hpv5, hpc5, heq2⟩
      have hwi : IntKind.i64.wrap ((i : Int) + 1) = ((i + 1 : Nat) : Int) := wrap_succ (by omega)
      by_cases hlt : i < pages.length
      · have hlt' : (i : Int) < (pages.length : Int) := by omega
        simp only [binV_lss, pVal_some, hlt', decide_true, pIf_bool, if_true]
        have hdrop : pages.drop i = pages[i] :: pages.drop (i + 1) := List.drop_eq_getElem_cons hlt
        rw [hdrop, moveTab] at heq2
        refine Ints.get hpv5 hlt ?_
        obtain ⟨bv, tb, wb, p3, p4, p5, p6, p7, ptab, _, _⟩ := h5.parts
        have hcb := h5.st.col
        have hbb : ∀ w', (∃ γ', Keep (tabC (c + 10)) w5 γ5 w' γ') → Blk w' b 174 (stCells A.n { s2 with tab := t5 } bv tb wb) := fun w' ⟨γ', hk⟩ => hk.blk p3 (by rw [hcb]; unfold tabC; omega)
        refine pDraw_fr (fun w' => ∃ γ', Keep (tabC (c + 10)) w5 γ5 w' γ') fun w6 hf6 _ _ => ⟨⟨γ5, hf6.keepS h5⟩, ?_⟩
        simp
        refine pHld1 hbb lay_171 (v := ptr tb 0) rfl ?_
        refine pHld1 hbb lay_171 (v := ptr tb 0) rfl ?_
        have h6 := h5.fr hf6
        have hk56 : Keep (tabC (c + 10)) w5 γ5 w6 γ5 := hf6.keepS h5
        have p66 : TableR w6 γ5 (c + 10) tb t5 := p6.keep (hf6.keepS (C := fun _ => False) h5) fun _ _ h => h
        refine Table_Place p66 ?_
        try rw [pKeep_true]
        try refine ⟨⟨γ5, hk56⟩, ?_⟩
        refine Table_Set h6.wf p66 fun w7 hk7 ht7 => ?_
        try rw [pKeep_true]
        have hk57 : Keep (tabC (c + 10)) w5 γ5 w7 γ5 := hk56.trans hk7 fun _ h => h
        try refine ⟨⟨γ5, hk57⟩, ?_⟩
        obtain ⟨hko, h7⟩ := ptab w7 γ5 _ hk57 ht7
        simp only [binV_add, pVal_some, hwi]
        obtain ⟨hpv7, hpc7⟩ := Ints.own hpv5 hpc5 hko (opC0 c hbig)
        exact hag2 (i + 1) w7 (by omega) (by omega) ⟨γ5, _, hk5.trans hko fun _ h => h, h7, hpv7, hpc7, heq2⟩
      have hlt' : ¬ (i : Int) < (pages.length : Int) := by omega
      simp only [binV_lss, pVal_some, hlt', decide_false, pIf_bool, Bool.false_eq_true, if_false]
      rw [List.drop_of_length_le (by omega), moveTab] at heq2
      obtain ⟨bv, tb, wb, p3, p4, p5, p6, p7, _, _, pset⟩ := h5.parts
      simp
      refine pSt1 p3 lay_3 rfl rfl (by simp [stCells]) fun w6 hc6 h6 => ?_
      have h6 : Blk w6 b 174 (stCells A.n { s2 with tab := t5, front := ti } bv tb wb) := h6
      obtain ⟨hko, h7⟩ := pset w6 { s2 with tab := t5, front := ti } hc6 h6 rfl rfl rfl ⟨h5.st.ok.len, ⟨by simp only; omega, by simp only; unfold StoreM.len at hti; omega⟩, h5.st.ok.spare⟩
      rw [heq2] at heq
      rw [heq] at k
      exact k w6 γ5 (hk5.trans hko fun _ h => h) h7
    rw [if_neg g]
    rw [if_neg g] at heq
    try simp only [binV_eql, pVal_some, pIf_bool, decide_eq_true_eq]
    by_cases g2 : q.1 = 10
    rotate_left
    · rw [if_neg g2]
      rw [if_neg g2] at heq
      rw [heq] at k
      exact k w4 γ4 hk04 h4
    rw [if_pos g2]
    rw [if_pos g2] at heq
    have hi4 := hs.inv hi2
    have hst := sSpoil_step (b := beside) (beside := beside) hi4 hti hb0 (Int.le_refl _) (by rw [hs.spares]; exact hsp2) htf
    refine Store_spoil h4 hti fun w5 hk5 h5 => ?_
    have hk05 := hk04.trans hk5 fun _ h => h
    simp only [binV_neq, pVal_some, pIf_bool, Bool.not_eq_true', decide_eq_false_iff_not]
    by_cases g3 : (sSpoil q.2 s2 ti beside).e = 0
    rotate_left
    · rw [if_pos g3]
      rw [if_pos g3] at heq
      rw [heq] at k
      exact k w5 γ4 hk05 h5
    rw [if_neg (by simpa using g3)]
    rw [if_neg (by simpa using g3)] at heq
    have hlt : (sSpoil q.2 s2 ti beside).a.good < a2.good := by
      unfold sSpoil at g3 ⊢
      split at g3
      · cases g3
      · rename_i hgt
        rw [if_neg hgt]
        have := mark_good (a := q.2) (b := s2.blk ti) g3 (by have := hs.sBad s2 ti; rw [htb] at this; exact this)
        rw [hs.good] at this
        exact this
    obtain ⟨hpv5, hpc5⟩ := Ints.own hpv4 hpc4 hk5 (opC0 c hbig)
    exact hag m w5 (by omega) ⟨γ4, _, _, hk05, h5, hst.inv, hst.spares, hlk2.trans hst.like, hpv5, hpc5, by omega, heq⟩
theorem Store_collect {i : Nat} (h : SRep w γ A c b a s) (hi : SInv a s) (hil : i < s.len)
    (k : ∀ w' γ', Keep (opC c) w γ w' γ' → SRep w' γ' A c b (sCollect a s i).a (sCollect a s i).s → K (i64 (sCollect a s i).e) w') :
    pCall P 168 [ptr b 0, i64 i] K w := by
  refine c168 ?_
  unfold G168
  have hst := (sMove_step (from_ := i) (beside := 0) (b := 0) (by omega) (by omega) hi hi.spares).1
  refine Store_move h hi hil (by omega) hi.spares fun w1 γ1 hk1 h1 => ?_
  unfold sCollect at k
  try dsimp only at k
  simp only [binV_neq, pVal_some, pIf_bool, Bool.not_eq_true', decide_eq_false_iff_not]
  generalize sMove a s i 0 = m at *
  by_cases g : m.e = 0
  rotate_left
  · rw [if_pos g]
    simp only [if_pos g] at k
    exact k w1 γ1 hk1 h1
  rw [if_neg (by simpa using g)]
  simp only [ne_eq, g, not_true, if_false] at k
  refine Store_erase h1 (by rw [hst.like.len]; exact hil) fun w2 hk2 h2 => ?_
  exact k w2 γ1 (hk1.trans hk2 fun _ h => h) h2
theorem Store_lose {i : Nat} (h : SRep w γ A c b a s) (hi : SInv a s) (hif : s.front = i)
    (k : ∀ w' γ', Keep (opC c) w γ w' γ' → SRep w' γ' A c b (sLose a s).a (sLose a s).s → K (i64 (sLose a s).e) w') :
    pCall P 234 [ptr b 0] K w := by
  refine c234 ?_
  unfold G234
  have hil : i < s.len := by have := hi.ok.front; unfold StoreM.len; omega
  refine Store_spares h fun w1 hf1 => ?_
  have h1 := h.fr hf1
  have hk1 : Keep (opC c) w γ w1 γ := hf1.keepS h
  unfold sLose at k
  simp only [binV_lss, pVal_some, pIf_bool, decide_eq_true_eq]
  by_cases g : sSpares a s < 1
  · rw [if_pos g]
    simp only [if_pos g, sEnd] at k
    refine Store_end h1 fun w2 hk2 h2 => ?_
    exact k w2 γ (hk1.trans hk2 fun _ h => h) h2
  rw [if_neg g]
  simp only [if_neg g, hif] at k
  obtain ⟨bv, tb, wb, h3, h4, h5, h6, h7⟩ := h1.st.mem
  simp
  refine pLd1 h3 lay_3 (v := i64 s.front) rfl ?_
  rw [hif]
  have hst := (sMove_step (from_ := i) (beside := 1) (b := 1) (by omega) (by omega) hi (by omega)).1
  refine Store_move h1 hi hil (by omega) (by omega) fun w2 γ2 hk2 h2 => ?_
  try dsimp only at k
  simp only [binV_neq, pVal_some, pIf_bool, Bool.not_eq_true', decide_eq_false_iff_not]
  generalize sMove a s i 1 = m at *
  have hk02 := hk1.trans hk2 fun _ h => h
  by_cases ge : m.e = 0
  rotate_left
  · rw [if_pos ge]
    simp only [if_pos ge] at k
    exact k w2 γ2 hk02 h2
  rw [if_neg (by simpa using ge)]
  simp only [ne_eq, ge, not_true, if_false] at k
  obtain ⟨bv, tb, wb, p3, p4, p5, hat⟩ := h2.held
  obtain ⟨ib, io, iT, il, hix, hib, hic⟩ := hat i (by rw [hst.like.len]; exact hil)
  refine pDraw_fr (AK w2 γ2) fun w3 hf3 _ _ => ⟨AK.fr hf3 h2.wf, ?_⟩
  try simp
  refine pHld1 p3 lay_58 rfl ?_
  refine pHld1 p3 lay_24 (v := bv) rfl ?_
  rw [hix, pVal_some]
  refine pHld1 hib lay_3 hic ?_
  have h3' := h2.fr hf3
  refine Nand_Mark h3'.wf h3'.arr fun w4 hk4 ha4 => ?_
  rw [pKeep_true]
  have hk24 : Keep arrC w2 γ2 w4 γ2 := (hf3.keepS (C := arrC) h2).trans hk4 fun _ h => h
  refine ⟨⟨γ2, hk24⟩, ?_⟩
  obtain ⟨_, hr⟩ := h3'.arrK' hk4 ha4 (mark_g _ _)
  exact k w4 γ2 (hk02.trans (hk24.mono fun _ hx => .inl hx) fun _ h => h) hr
end
end Go.Al

namespace Go.Al
open Go Go.Proofs
section
variable {w : World} {γ : Col} {A : ArrA} {c b : Nat} {a : ArrM} {s : StoreM} {K : Value → World → Prop}
theorem take_set {ws : List Int} {i : Nat} {x y : Int} (hx : ws[i]? = some x) (hn : i < ws.length) : ((ws.take i ++ List.replicate (ws.length - i) y).set i x) = ws.take (i + 1) ++ List.replicate (ws.length - (i + 1)) y := by
  have hl : (ws.take i).length = i := by simp; omega
  obtain ⟨r, hr⟩ : ∃ r, ws.length - i = r + 1 := ⟨ws.length - i - 1, by omega⟩
  have hr2 : ws.length - (i + 1) = r := by omega
  rw [List.set_append_right _ _ (by omega), hl, Nat.sub_self, hr, hr2, List.replicate_succ, List.set_cons_zero, List.take_add_one, hx]
  simp
theorem Store_room (h : SRep w γ A c b a s) (hi : SInv a s)
    (k : ∀ w' γ', Keep (opC c) w γ w' γ' → SRep w' γ' A c b (sRoom a s).a (sRoom a s).s → K (i64 (sRoom a s).e) w') :
    pCall P 232 [ptr b 0] K w := by
  refine c232 ?_
  unfold G232
  have hok := hi.ok
  have hbig := h.st.big
  unfold sRoom at k
  refine join0 (fun w' => Fr w w' ∧ ¬ (s.front ≠ -1 ∧ (sNext a s s.front : Int) < a.g.pages)) ?_ ?_
  rotate_left
  · intro J hJ
    obtain ⟨bv, tb, wb, h3, h4, h5, h6, h7⟩ := h.st.mem
    simp
    refine pLd1 h3 lay_3 (v := i64 s.front) rfl ?_
    simp
    by_cases g : s.front = -1
    · simp [g]
      exact hJ _ ⟨Ch.refl _ _, by simp [g]⟩
    simp [g]
    refine pLd1 h3 lay_3 (v := i64 s.front) rfl ?_
    obtain ⟨i, hif⟩ : ∃ i : Nat, s.front = i := ⟨s.front.toNat, by have := hok.front; omega⟩
    have hil : i < s.len := by have := hok.front; unfold StoreM.len; omega
    rw [hif]
    refine Store_next h hil fun w1 hf1 => ?_
    refine Store_pages (h.fr hf1) fun w2 hf2 => ?_
    have hf02 := hf1.trans hf2
    simp only [binV_lss, pVal_some, pIf_bool, decide_eq_true_eq]
    by_cases g2 : (sNext a s i : Int) < a.g.pages
    · rw [if_pos g2]
      have := k w2 γ (hf02.keepS h)
      rw [if_pos ⟨g, by rw [hif]; exact g2⟩] at this
      exact this (h.fr hf02)
    · rw [if_neg g2]
      exact hJ _ ⟨hf02, by rw [hif]; rintro ⟨_, q⟩; exact g2 q⟩
  rintro w1 ⟨hf1, g1⟩
  simp only [if_neg g1] at k
  have h1 := h.fr hf1
  refine Store_Free h1 fun w2 fv hf2 hfv2 hfr2 => ?_
  have h2 := h1.fr hf2
  have hf02 := hf1.trans hf2
  rw [hfv2.len (by simp), pVal_some]
  have hfl : (sFree a s).length ≤ 500 := by
    have := pickTo_len (fun i => decide ((i : Int) ≠ s.front) && sBlank a s i) s.len
    unfold sFree; have := hok.len; unfold StoreM.len at *; omega
  refine Store_spares h2 fun w3 hf3 => ?_
  have h3 := h2.fr hf3
  have hf03 := hf02.trans hf3
  have hsp := hi.spares
  have hsp2 : sSpares a s ≤ 1000 := by unfold sSpares; have := hok.spare; omega
  simp only [binV_add, binV_gtr, pVal_some, pIf_bool, decide_eq_true_eq]
  rw [wrap_in (by omega) (by omega)]
  by_cases g2 : 1 + sSpares a s < (sFree a s).length
  · rw [if_pos g2]
    simp only [if_pos g2] at k
    have hne : 0 < (sFree a s).length := by omega
    refine Ints.get (i := 0) (hfv2.fr hf3) hne ?_
    have hget : ((sFree a s)[0]?).getD 0 = (sFree a s)[0] := by simp [hne]
    rw [hget] at k
    obtain ⟨ti, hte, hti, _, _⟩ := sFree_mem (a := a) (s := s) (x := (sFree a s)[0]) (List.getElem_mem hne)
    obtain ⟨bv, tb, wb, p3, p4, p5, p6, p7, _, _, pset⟩ := h3.parts
    simp
    refine pSt1 p3 lay_3 rfl rfl (by simp [stCells]) fun w4 hc4 h4 => ?_
    have h4 : Blk w4 b 174 (stCells A.n { s with front := (sFree a s)[0] } bv tb wb) := h4
    obtain ⟨hko, h4r⟩ := pset w4 { s with front := (sFree a s)[0] } hc4 h4 rfl rfl rfl ⟨hok.len, ⟨by simp only; omega, by simp only; unfold StoreM.len at hti; omega⟩, hok.spare⟩
    exact k w4 γ ((hf03.keepS (C := opC c) h).trans hko fun _ h => h) h4r
  rw [if_neg g2]
  simp only [if_neg g2] at k
  obtain ⟨bv, tb, wb, p3, p4, p5, p6, p7⟩ := h3.st.mem
  try simp
  refine pLd1 p3 lay_24 (v := bv) rfl ?_
  rw [p4.len (by simp), pVal_some]
  have hlen := hok.len
  obtain ⟨ws, hws⟩ : ∃ ws, ws = sWorth a s := ⟨_, rfl⟩
  have hwl : ws.length = s.ent.blocks.length := by rw [hws, sWorth_len]; rfl
  rw [← hws] at k
  rw [← hwl]
  refine pMake (x := (0 : Int)) sli_int zero_3 cI_len rfl (by omega) (by omega) (by omega) fun mv w4 mb hmv4 hf4 hml hmb => ?_
  have hf04 := hf03.trans hf4
  have h4 := h3.fr hf4
  have hmv4' : Ints w4 mv (List.replicate ws.length 0) := hmv4
  rw [hmv4'.len (by simp), pVal_some]
  simp only [List.length_replicate]
  have hmvl : ∀ x, live mv = some x → w3.heap.size ≤ x := fun x hx => by
    rcases hml with e | e
    · rw [e] at hx; cases hx
    · rw [e] at hx; cases hx; exact hmb
  have s03 := hf03.size
  refine loop1_up ws.length (fun i w' => Fr w w' ∧ Ints w' mv (ws.take i ++ List.replicate (ws.length - i) 0)) ⟨hf04, hmv4'⟩ ?_
  rintro i w5 ag hag hil ⟨hf5, hmv5⟩
  have hwi : IntKind.i64.wrap ((i : Int) + 1) = ((i + 1 : Nat) : Int) := wrap_succ (by omega)
  have h5 := h.fr hf5
  by_cases hlt : i < ws.length
  rotate_left
  · have hlt' : ¬ (i : Int) < (ws.length : Int) := by omega
    simp only [binV_lss, pVal_some, hlt', decide_false, pIf_bool, Bool.false_eq_true, if_false]
    have e : ws.take i ++ List.replicate (ws.length - i) 0 = ws := by
      have : ws.length - i = 0 := by omega
      rw [this, List.take_of_length_le (by omega)]; simp
    rw [e] at hmv5
    refine Greedy hmv5 (by omega) ?_
    simp only [binV_lss, pVal_some, pIf_bool, decide_eq_true_eq]
    by_cases g3 : greedy ws < 0
    · rw [if_pos g3]
      simp only [if_pos g3] at k
      exact k w5 γ (hf5.keepS h) h5
    · rw [if_neg g3]
      simp only [if_neg g3] at k
      obtain ⟨vi, hv1, hv2, hv3, hv4⟩ := greedy_victim (a := a) (s := s) (by rw [← hws]; exact g3)
      rw [← hws] at hv1
      rw [hv1] at k ⊢
      refine Store_collect h5 hi hv2 fun w6 γ6 hk6 h6 => ?_
      exact k w6 γ6 ((hf5.keepS (C := opC c) h).trans hk6 fun _ h => h) h6
  have hlt' : (i : Int) < (ws.length : Int) := by omega
  have hil' : i < s.len := by unfold StoreM.len; omega
  have hget := sWorth_get (a := a) (s := s) hil'
  rw [← hws] at hget
  simp only [binV_lss, pVal_some, hlt', decide_true, pIf_bool, if_true]
  have hml5 : (ws.take i ++ List.replicate (ws.length - i) 0).length = ws.length := by simp; omega
  obtain ⟨mb5, mo5, mT5, ml5, hmq, hmblk, hmx, hmo, hmc, hmset⟩ := Sl.at (P := P) hmv5 (i := i) (x := (ws.take i ++ List.replicate (ws.length - i) 0)[i]'(by omega)) (List.getElem?_eq_getElem (by omega)) (by omega)
  have hmx' := fun k => hmx _ k idx_24
  simp only [hmx', pVal_some]
  refine pSt1 hmblk lay_3 rfl rfl (by omega) fun w6 hc6 h6b => ?_
  have hmv6 := hmset w6 (-1) _ h6b (splice_one _ _ _ (by omega)).symm
  have hmbl := hmvl mb5 hmq
  have hf6 : Fr w w6 := Ch.trans' hf5 (by omega) hc6
  have h6 := h.fr hf6
  obtain ⟨bv, tb, wb, p3, p4, p5, p6, p7⟩ := h6.st.mem
  try simp
  refine pLd1 p3 lay_171 (v := ptr tb 0) rfl ?_
  refine Table_Worth p6 ?_
  obtain ⟨wo, hwo⟩ : ∃ wo, wo = s.tab.worthOf i := ⟨_, rfl⟩
  rw [← hwo] at hget ⊢
  refine join1 (fun u w' => u = .bool (decide (sBad a s i = false ∧ 0 < sNext a s i ∧ wo < a.g.pages)) ∧ Fr w6 w') ?_ ?_
  rotate_left
  · intro J hJ
    refine Store_bad h6 hil' fun w7 hf7 => ?_
    have h7 := h6.fr hf7
    cases gb : sBad a s i
    rotate_left
    · simp
      exact hJ _ _ ⟨by simp [gb], hf7⟩
    simp
    refine Store_next h7 hil' fun w8 hf8 => ?_
    have h8 := h7.fr hf8
    by_cases gn : 0 < sNext a s i
    rotate_left
    · simp [gn]
      exact hJ _ _ ⟨by simp [gn], hf7.trans hf8⟩
    simp [gn]
    refine Store_pages h8 fun w9 hf9 => ?_
    simp
    exact hJ _ _ ⟨by simp [gb, gn], (hf7.trans hf8).trans hf9⟩
  rintro _ w7 ⟨rfl, hf7⟩
  rw [pIf_bool]
  have hmv7 := hmv6.fr hf7
  have hf07 := hf6.trans hf7
  by_cases g3 : sBad a s i = false ∧ 0 < sNext a s i ∧ wo < a.g.pages
  · rw [decide_eq_true g3, if_pos rfl]
    rw [if_pos g3] at hget
    have h6b' := hf7.blk h6b fun h => h
    refine pSt1 h6b' lay_3 rfl rfl (by simp; omega) fun w8 hc8 h8 => ?_
    rw [List.set_set] at h8
    simp only [binV_add, pVal_some, hwi]
    have hfin : Ints w8 mv (ws.take (i + 1) ++ List.replicate (ws.length - (i + 1)) 0) := by
      have := hmset w8 wo _ h8 (splice_one _ _ _ (by omega)).symm
      rw [take_set hget hlt] at this
      exact this
    exact hag (i + 1) w8 (by omega) (by omega) ⟨Ch.trans' hf07 (by omega) hc8, hfin⟩
  · rw [decide_eq_false g3, if_neg Bool.false_ne_true]
    rw [if_neg g3] at hget
    simp only [binV_add, pVal_some, hwi]
    rw [take_set hget hlt] at hmv7
    exact hag (i + 1) w7 (by omega) (by omega) ⟨hf07, hmv7⟩
end
end Go.Al

namespace Go.Al
open Go Go.Proofs
theorem tag_build (a b c d e : Int) : buildV P 182 [(0, i64 a), (1, i64 b), (2, i64 c), (3, i64 d), (4, i64 e)] = some (TagM.val ⟨a, b, c, d, e, false⟩) := by
  simp [buildV_app, fillL, fillA, splice, TagM.val, TagM.cells]
theorem tagBytes_right {t : TagM} (h : (tagBytes t).1 = 0) : 0 ≤ t.seq ∧ t.seq ≤ 2147483647 ∧ t.right = true := by
  unfold tagBytes at h
  split at h
  · cases h
  · rename_i g
    have g : t.right = true := by simpa using g
    have g2 := g
    unfold TagM.right withinM at g2
    simp at g2
    exact ⟨by omega, by omega, g⟩
theorem putGo_step {x : ChM} : ∀ (n : Nat) (a : ArrM) (s : StoreM), SInv a s → SStep 0 a s (putGo x n a s)
  | 0, a, s, hi => ⟨rfl, rfl, Nat.le_refl _, SLike.refl s, hi, hi.spares⟩
  | n + 1, a, s, hi => by
    unfold putGo
    have hr := sRoom_step hi
    dsimp only
    generalize sRoom a s = r at *
    obtain ⟨hr1, hr2⟩ := hr
    split
    · exact hr1
    rename_i ge
    obtain ⟨i, hif, hil⟩ := hr2 (by simpa using ge)
    have hil' : i < r.s.len := by rw [hr1.like.len]; exact hil
    have hib : sBad r.a r.s i = false := by
      have := hr1.inv.front
      rw [hif] at this
      rcases this with q | q
      · omega
      · exact q
    generalize tagBytes ⟨r.s.who, r.s.ent.epoch, x.place, r.s.seq, x.kind, false⟩ = t
    split
    · exact ⟨hr1.g, hr1.len, hr1.good, hr1.like, hr1.inv, hr1.spares⟩
    have e2 : r.s.blk r.s.front = r.s.blk i := by rw [hif]
    have e1 : sNext r.a r.s r.s.front = sNext r.a r.s i := by rw [hif]
    rw [e1, e2]
    have hs := program_same r.a r.s.who (r.s.blk i) (sNext r.a r.s i) t.2 x.data
    have hpf := program_fail (a := r.a) (who := r.s.who) (b := r.s.blk i) (i := (sNext r.a r.s i : Nat)) (s := t.2) (d := x.data)
    generalize r.a.program r.s.who (r.s.blk i) (sNext r.a r.s i) t.2 x.data = q at *
    have hi' := hs.inv hr1.inv
    have hg : q.2.good ≤ a.good := by rw [hs.good]; exact hr1.good
    split
    · refine ⟨hs.g.trans hr1.g, hs.len.trans hr1.len, hg, ⟨hr1.like.who, hr1.like.ent, hr1.like.wait⟩, ⟨⟨hi'.ok.len, by have := hi'.ok.front; exact ⟨this.1, this.2⟩, hi'.ok.spare⟩, hi'.nodup, hi'.spares, hi'.front⟩, hi'.spares⟩
    split
    · rename_i g10
      have hl := sLose_step (a := q.2) (s := r.s) (i := i) hi' hil' hif (by rw [hs.sBad]; exact hib) (next_not_blank (hpf g10 hib))
      generalize sLose q.2 r.s = l at *
      obtain ⟨hl1, hl2⟩ := hl
      split
      · exact ⟨hl1.g.trans (hs.g.trans hr1.g), hl1.len.trans (hs.len.trans hr1.len), Nat.le_trans hl1.good hg, hr1.like.trans hl1.like, hl1.inv, hl1.spares⟩
      · have ih := putGo_step (x := x) n l.a l.s hl1.inv
        exact ⟨ih.g.trans (hl1.g.trans (hs.g.trans hr1.g)), ih.len.trans (hl1.len.trans (hs.len.trans hr1.len)), Nat.le_trans ih.good (Nat.le_trans hl1.good hg), hr1.like.trans (hl1.like.trans ih.like), ih.inv, ih.spares⟩
    · exact ⟨hs.g.trans hr1.g, hs.len.trans hr1.len, hg, hr1.like, hi', hi'.spares⟩
section
variable {w : World} {γ : Col} {A : ArrA} {c b : Nat} {a : ArrM} {s : StoreM} {K : Value → World → Prop}
theorem Store_put {x : ChM} (h : SRep w γ A c b a s) (hi : SInv a s)
    (k : ∀ w' γ', Keep (opC c) w γ w' γ' → SRep w' γ' A c b (sPut a s x).a (sPut a s x).s → K (i64 (sPut a s x).e) w') :
    pCall P 203 [ptr b 0, x.val] K w := by
  refine c203 ?_
  unfold G203
  have hbig := h.st.big
  refine pNew_of x.cells (by simp [ChM.val]) fun vb w1 hvb hvbl hf1 h1v => ?_
  have h1 := h.fr hf1
  have hvb0 : γ vb = 0 := h.wf vb (by omega)
  unfold sPut at k
  obtain ⟨R, hR⟩ : ∃ R, R = putGo x (a.good + 1) a s := ⟨_, rfl⟩
  rw [← hR] at k
  refine loop0_fuel (fun n w' => ∃ γ' a' s', Keep (opC c) w γ w' γ' ∧ SRep w' γ' A c b a' s' ∧ SInv a' s' ∧ SLike s s' ∧ Blk w' vb 176 x.cells ∧ γ' vb = 0 ∧ a'.good < n ∧ R = putGo x n a' s') (a.good + 1) ?_ ?_
  · exact ⟨γ, a, s, hf1.keepS h, h1, hi, SLike.refl s, h1v, hvb0, by omega, hR⟩
  rintro n w2 ag hag ⟨γ2, a2, s2, hk2, h2, hi2, hlk2, hv2, hvc2, hgood, heq⟩
  obtain ⟨m, rfl⟩ : ∃ m, n = m + 1 := ⟨n - 1, by omega⟩
  unfold putGo at heq
  have hstep := sRoom_step hi2
  dsimp only at heq
  refine Store_room h2 hi2 fun w3 γ3 hk3 h3 => ?_
  obtain ⟨r, hr⟩ : ∃ r, r = sRoom a2 s2 := ⟨_, rfl⟩
  rw [← hr] at heq h3 hstep ⊢
  obtain ⟨hst1, hst2⟩ := hstep
  have hk03 := hk2.trans hk3 fun _ h => h
  have hv3 : Blk w3 vb 176 x.cells := hk3.blk hv2 (by rw [hvc2]; exact opC0 c hbig)
  have hvc3 : γ3 vb = 0 := hk3.c0 hv2.lt hvc2
  simp only [binV_neq, pVal_some, pIf_bool, Bool.not_eq_true', decide_eq_false_iff_not]
  by_cases ge : r.e = 0
  rotate_left
  · rw [if_pos ge]
    rw [if_pos ge] at heq
    rw [heq] at k
    exact k w3 γ3 hk03 h3
  rw [if_neg (by simpa using ge)]
  rw [if_neg (by simpa using ge)] at heq
  obtain ⟨i, hif, hil⟩ := hst2 ge
  have hil' : i < r.s.len := by rw [hst1.like.len]; exact hil
  have hib : sBad r.a r.s i = false := by
    have := hst1.inv.front
    rw [hif] at this
    rcases this with q | q
    · omega
    · exact q
  obtain ⟨bv, tb, wb, p3, p4, p5, p6, p7⟩ := h3.st.mem
  refine pDraw_fr (fun w' => Fr w3 w') fun w4 hf4 _ _ => ⟨hf4, ?_⟩
  try simp
  refine pHld1 (fun w' hS => hS.blk p3 fun h => h) lay_3 (v := i64 r.s.who) rfl ?_
  refine pHld1 (fun w' hS => hS.blk p3 fun h => h) lay_3 (v := i64 r.s.ent.epoch) rfl ?_
  refine pHld1 (fun w' hS => hS.blk hv3 fun h => h) lay_3 (v := i64 x.place) rfl ?_
  refine pHld1 (fun w' hS => hS.blk p3 fun h => h) lay_3 (v := i64 r.s.seq) rfl ?_
  refine pHld1 (fun w' hS => hS.blk hv3 fun h => h) lay_3 (v := i64 x.kind) rfl ?_
  rw [tag_build, pVal_some]
  refine Tag_Bytes fun v5 w5 hs5 hf5 hr5 => ?_
  rw [pKeep_true]
  have hf35 := hf4.trans hf5
  refine ⟨hf35, ?_⟩
  have hright := @tagBytes_right ⟨r.s.who, r.s.ent.epoch, x.place, r.s.seq, x.kind, false⟩
  obtain ⟨t, ht⟩ : ∃ t, t = tagBytes ⟨r.s.who, r.s.ent.epoch, x.place, r.s.seq, x.kind, false⟩ := ⟨_, rfl⟩
  rw [← ht] at heq hs5 hright ⊢
  have h5 := h3.fr hf35
  have hk05 : Keep (opC c) w γ w5 γ3 := hk03.trans (hf35.keepS (C := opC c) h3) fun _ h => h
  simp only [extractV_tuple, List.getElem?_toArray, List.getElem?_cons_zero, List.getElem?_cons_succ, pVal_some, binV_neq, pIf_bool, Bool.not_eq_true', decide_eq_false_iff_not]
  by_cases gt : t.1 = 0
  rotate_left
  · rw [if_pos gt]
    rw [if_pos gt] at heq
    rw [heq] at k
    exact k w5 γ3 hk05 h5
  rw [if_neg (by simpa using gt)]
  rw [if_neg (by simpa using gt)] at heq
  have hseq : 0 ≤ r.s.seq ∧ r.s.seq ≤ 2147483647 ∧ _ := hright gt
  try simp
  refine pLd1 (hf35.blk p3 fun h => h) lay_3 (v := i64 r.s.front) rfl ?_
  have e2 : r.s.blk r.s.front = r.s.blk i := by rw [hif]
  have e1 : sNext r.a r.s r.s.front = sNext r.a r.s i := by rw [hif]
  rw [e1, e2] at heq
  rw [hif]
  refine Store_next h5 hil' fun w6 hf6 => ?_
  obtain ⟨at_, hat_⟩ : ∃ at_, at_ = sNext r.a r.s i := ⟨_, rfl⟩
  rw [← hat_] at heq ⊢
  have hf36 := hf35.trans hf6
  have h6 := h3.fr hf36
  obtain ⟨bv, tb, wb, q3, q4, q5, hat⟩ := h6.held
  obtain ⟨ib, io, iT, il, hix, hibk, hic⟩ := hat i hil'
  have hv6 := hf36.blk hv3 fun h => h
  have hvA : ∀ w', AK w6 γ3 w' → Blk w' vb 176 x.cells := fun w' hA => hA.blk hv6 (by rw [hvc3]; unfold arrC; omega)
  refine pDraw_fr (AK w6 γ3) fun w7 hf7 _ _ => ⟨AK.fr hf7 h6.wf, ?_⟩
  try simp
  refine pHld1 q3 lay_58 rfl ?_
  refine pHld1 q3 lay_3 (v := i64 r.s.who) rfl ?_
  refine pHld1 q3 lay_24 (v := bv) rfl ?_
  refine pHld1 q3 lay_3 (v := i64 r.s.front) rfl ?_
  rw [hif, hix, pVal_some]
  refine pHld1 hibk lay_3 hic ?_
  try simp
  refine pHld1 hvA lay_9 (v := sV x.data) rfl ?_
  have h7 := h6.fr hf7
  have hv5c : ∀ y, live v5 = some y → γ3 y = 0 := fun y hy => h3.wf y (by have := hr5 y hy; have := hf4.size; omega)
  refine Nand_Program h7.wf h7.arr ((hs5.fr hf6).fr hf7) hv5c fun w8 γ8 hk8 ha8 => ?_
  rw [pKeep_true]
  have hk68 : Keep arrC w6 γ3 w8 γ8 := (hf7.keepS (C := arrC) h6).trans hk8 fun _ h => h
  refine ⟨⟨γ8, hk68⟩, ?_⟩
  have hs := program_same r.a r.s.who (r.s.blk i) at_ t.2 x.data
  have hpf := program_fail (a := r.a) (who := r.s.who) (b := r.s.blk i) (i := (at_ : Nat)) (s := t.2) (d := x.data)
  obtain ⟨_, h8⟩ := h7.arrK' hk8 ha8 hs.g
  generalize r.a.program r.s.who (r.s.blk i) at_ t.2 x.data = q at *
  have hk36 : Keep (opC c) w γ w6 γ3 := hk03.trans (hf36.keepS (C := opC c) h3) fun _ h => h
  have hk08 : Keep (opC c) w γ w8 γ8 := hk36.trans (hk68.mono fun _ hx => .inl hx) fun _ h => h
  have hi' := hs.inv hst1.inv
  simp only [binV_eql, pVal_some, pIf_bool, decide_eq_true_eq]
  by_cases gq : q.1 = 0
  · rw [if_pos gq]
    rw [if_pos gq] at heq
    obtain ⟨bv, tb, wb, u3, u4, u5, u6, u7, _, _, uset⟩ := h8.parts
    try simp
    refine pLd1 u3 lay_3 (v := i64 r.s.seq) rfl ?_
    try simp
    rw [wrap_in (by omega) (by omega)]
    refine pSt1 u3 lay_3 rfl rfl (by simp [stCells]) fun w9 hc9 h9b => ?_
    have h9b : Blk w9 b 174 (stCells A.n { r.s with seq := r.s.seq + 1 } bv tb wb) := h9b
    obtain ⟨hk9, h9⟩ := uset w9 { r.s with seq := r.s.seq + 1 } hc9 h9b rfl rfl rfl ⟨h8.st.ok.len, h8.st.ok.front, h8.st.ok.spare⟩
    have hk09 := hk08.trans hk9 fun _ h => h
    have hv9 : Blk w9 vb 176 x.cells := by
      have hv8 := hk68.blk hv6 (by rw [hvc3]; unfold arrC; omega)
      exact hk9.blk hv8 (by rw [hk68.c0 hv6.lt hvc3]; exact opC0 c hbig)
    obtain ⟨bv, tb, wb, y3, y4, y5, y6, y7, ytab, _, _⟩ := h9.parts
    refine pDraw_fr (fun w' => Fr w9 w') fun w10 hf10 _ _ => ⟨hf10, ?_⟩
    try simp
    refine pHld1 (fun w' hS => hS.blk y3 fun h => h) lay_171 (v := ptr tb 0) rfl ?_
    refine pHld1 (fun w' hS => hS.blk hv9 fun h => h) lay_3 (v := i64 x.place) rfl ?_
    refine pHld1 (fun w' hS => hS.blk y3 fun h => h) lay_3 (v := i64 r.s.front) rfl ?_
    have h10 := h9.fr hf10
    have y66 : TableR w10 γ8 (c + 10) tb r.s.tab := y6.keep (hf10.keepS (C := fun _ => False) h9) fun _ _ h => h
    refine Table_Set h10.wf y66 fun w11 hk11 ht11 => ?_
    have hk911 : Keep (tabC (c + 10)) w9 γ8 w11 γ8 := (hf10.keepS (C := tabC (c + 10)) h9).trans hk11 fun _ h => h
    obtain ⟨hko, h11⟩ := ytab w11 γ8 _ hk911 ht11
    rw [heq] at k
    exact k w11 γ8 (hk09.trans hko fun _ h => h) h11
  rw [if_neg gq]
  rw [if_neg gq] at heq
  by_cases g10 : q.1 = 10
  rotate_left
  · rw [if_neg g10]
    rw [if_neg g10] at heq
    rw [heq] at k
    exact k w8 γ8 hk08 h8
  rw [if_pos g10]
  rw [if_pos g10] at heq
  have hls := sLose_step (a := q.2) (s := r.s) (i := i) hi' hil' hif (by rw [hs.sBad]; exact hib) (next_not_blank (hpf g10 hib))
  refine Store_lose h8 hi' hif fun w9 γ9 hk9 h9 => ?_
  obtain ⟨l, hl⟩ : ∃ l, l = sLose q.2 r.s := ⟨_, rfl⟩
  rw [← hl] at heq h9 hls ⊢
  obtain ⟨hl1, hl2⟩ := hls
  have hk09 := hk08.trans hk9 fun _ h => h
  simp only [binV_neq, pVal_some, pIf_bool, Bool.not_eq_true', decide_eq_false_iff_not]
  by_cases gl : l.e = 0
  rotate_left
  · rw [if_pos gl]
    rw [if_pos gl] at heq
    rw [heq] at k
    exact k w9 γ9 hk09 h9
  rw [if_neg (by simpa using gl)]
  rw [if_neg (by simpa using gl)] at heq
  have hlt := hl2 gl
  rw [hs.good] at hlt
  have hgr := hst1.good
  have hv8 := hk68.blk hv6 (by rw [hvc3]; unfold arrC; omega)
  have hv8c : γ8 vb = 0 := hk68.c0 hv6.lt hvc3
  exact hag m w9 (by omega) ⟨γ9, _, _, hk09, h9, hl1.inv, hlk2.trans (hst1.like.trans hl1.like), hk9.blk hv8 (by rw [hv8c]; exact opC0 c hbig), hk9.c0 hv8.lt hv8c, by omega, heq⟩
end
end Go.Al
