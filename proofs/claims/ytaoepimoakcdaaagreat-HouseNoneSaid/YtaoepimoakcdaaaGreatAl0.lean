/- HouseNone: a nil house is down and has nothing; this text: part 0 of the proof, no condition. -/
import Derived.Laws.Tables
import Derived.Laws.Rows
import Derived.Laws.World
import Derived.Laws.Sem
namespace Go.Al
open Go
/-- Is it a struct or an array; how many cells. -/
def lay (P : Program) (t : TypeId) : Option (Bool × Nat) :=
  match P.underlying t with
  | none => none
  | some d => match P.info? t with
    | none => none
    | some i => match d with
      | .struct _ => some (true, i.size)
      | .array _ _ => some (true, i.size)
      | _ => some (false, i.size)
def zeroP (P : Program) (t : TypeId) : Option Value :=
  match P.info? t with
  | some i => i.zero
  | none => none
def offP (P : Program) (s : TypeId) (f : Nat) : Option Nat :=
  match P.underlying s with
  | some (.struct fs) => match fs[f]? with
    | some fd => match P.info? fd.type with
      | some i => match i.size with | 0 => none | _ + 1 => some fd.offset
      | none => none
    | none => none
  | _ => none
/-- Of an array: its length and its elements' size; of a slice: its elements' size. -/
def idxP (P : Program) (t : TypeId) : Option (Option Nat × Nat) :=
  match P.underlying t with
  | some (.slice e) => match P.info? e with | some i => some (none, i.size) | none => none
  | some (.array n e) => match P.info? e with | some i => some (some n, i.size) | none => none
  | _ => none
/-- A struct's field: is it a struct or an array, where it begins, how many cells. -/
def fldP (P : Program) (s : TypeId) (f : Nat) : Option (Bool × Nat × Nat) :=
  match P.underlying s with
  | some (.struct fs) => match fs[f]? with
    | some fd => match lay P fd.type with
      | some (g, n) => some (g, fd.offset, n)
      | none => none
    | none => none
  | _ => none
def placesP (P : Program) (fs : List Field) : Option (List (Nat × Nat)) :=
  match fs with
  | [] => some []
  | f :: fs => match P.info? f.type with
    | some i => match placesP P fs with | some l => some ((f.offset, i.size) :: l) | none => none
    | none => none
/-- A struct's zero cells and its fields' places. -/
def bldP (P : Program) (t : TypeId) : Option (List Value × List (Nat × Nat)) :=
  match P.underlying t with
  | some (.struct fs) => match zeroP P t with
    | some z => match placesP P fs.toList with | some l => some (z.cells.toList, l) | none => none
    | none => none
  | _ => none
/-- An array's zero cells, and how many cells an element has. -/
def arrP (P : Program) (t : TypeId) : Option (List Value × Nat) :=
  match P.underlying t with
  | some (.array _ e) => match zeroP P t with
    | some z => match P.info? e with | some i => some (z.cells.toList, i.size) | none => none
    | none => none
  | _ => none
/-- What kind of type: 1 bool, 2 integer, 3 string, 4 pointer, 5 slice, 6 map, 7 function; 0 any other. -/
def kindP (P : Program) (t : TypeId) : Nat :=
  match P.underlying t with
  | some .bool => 1
  | some (.int _) => 2
  | some .string => 3
  | some (.pointer _) => 4
  | some (.slice _) => 5
  | some (.map _ _) => 6
  | some (.func ..) => 7
  | _ => 0
def fieldV (P : Program) (s : TypeId) (x : Value) (f : Nat) : Option Value :=
  match offP P s f with
  | some n => match x with
    | .pointer (some ⟨b, o, none⟩) => some (.pointer (some ⟨b, o + n, none⟩))
    | _ => none
  | none => none
def indexV (P : Program) (t : TypeId) (x i : Value) : Option Value :=
  match idxP P t with
  | some (none, size) => match x, i with
    | .slice (some ⟨b, o, none⟩) len _, .int _ n => if 0 ≤ n ∧ n < len then some (.pointer (some ⟨b, o + n.toNat * size, none⟩)) else none
    | _, _ => none
  | some (some len, size) => match x, i with
    | .pointer (some ⟨b, o, none⟩), .int _ n => if 0 ≤ n ∧ n < len then some (.pointer (some ⟨b, o + n.toNat * size, none⟩)) else none
    | _, _ => none
  | none => none
def cmpV (op : BinOp) (b : Bool) : Option Value :=
  match op with
  | .eql => some (.bool b)
  | .neq => some (.bool !b)
  | _ => none
def intV (op : BinOp) (k : IntKind) (a b : Int) : Option Value :=
  match op with
  | .add => some (.int k (k.wrap (a + b)))
  | .sub => some (.int k (k.wrap (a - b)))
  | .mul => some (.int k (k.wrap (a * b)))
  | .quo => if b = 0 then none else some (.int k (k.wrap (a.tdiv b)))
  | .rem => if b = 0 then none else some (.int k (a.tmod b))
  | .and => some (.int k (k.wrap (BitVec.ofInt k.bits a &&& BitVec.ofInt k.bits b).toNat))
  | .or => some (.int k (k.wrap (BitVec.ofInt k.bits a ||| BitVec.ofInt k.bits b).toNat))
  | .xor => some (.int k (k.wrap (BitVec.ofInt k.bits a ^^^ BitVec.ofInt k.bits b).toNat))
  | .andNot => some (.int k (k.wrap (BitVec.ofInt k.bits a &&& ~~~ BitVec.ofInt k.bits b).toNat))
  | .eql => some (.bool (a == b))
  | .neq => some (.bool (a != b))
  | .lss => some (.bool (a < b))
  | .leq => some (.bool (a ≤ b))
  | .gtr => some (.bool (a > b))
  | .geq => some (.bool (a ≥ b))
  | _ => none
def shiftV (op : BinOp) (k : IntKind) (a b : Int) : Option Value :=
  if b < 0 then none else
  match op with
  | .shl => some (.int k (k.wrap (a * 2 ^ min b.toNat k.bits)))
  | .shr => some (.int k (a.fdiv (2 ^ min b.toNat k.bits)))
  | _ => none
def strV (op : BinOp) (a b : ByteArray) : Option Value :=
  match op with
  | .add => if a.size + b.size ≤ 9223372036854775807 then some (.string (a ++ b)) else none
  | .eql => some (.bool (a.toList == b.toList))
  | .neq => some (.bool !(a.toList == b.toList))
  | _ => none
def binV (P : Program) (op : BinOp) (t : TypeId) (x y : Value) : Option Value :=
  match x, y with
  | .int k a, .int k' b => match op with
    | .shl | .shr => shiftV op k a b
    | _ => if k = k' then intV op k a b else none
  | .string a, .string b => strV op a b
  | .bool a, .bool b => match kindP P t with | 1 => cmpV op (a == b) | _ => none
  | .pointer a, .pointer none => match kindP P t with | 4 => cmpV op a.isNone | _ => none
  | .slice a _ _, .slice none _ _ => match kindP P t with | 5 => cmpV op a.isNone | _ => none
  | .func .., .nilFunc => match kindP P t with | 7 => cmpV op false | _ => none
  | .nilFunc, .nilFunc => match kindP P t with | 7 => cmpV op true | _ => none
  | _, _ => none
def unV (op : UnOp) (x : Value) : Option Value :=
  match op, x with
  | .not, .bool b => some (.bool !b)
  | .neg, .int k n => some (.int k (k.wrap (0 - n)))
  | .xor, .int k n => some (.int k (k.wrap (BitVec.ofInt k.bits (if k.signed then -1 else k.max) ^^^ BitVec.ofInt k.bits n).toNat))
  | _, _ => none
def extractV (x : Value) (i : Nat) : Option Value :=
  match x with
  | .tuple vs => vs[i]?
  | _ => none
/-- Cells with some put in. -/
def splice (z : List Value) (off : Nat) (vs : List Value) : List Value := z.take off ++ (vs ++ z.drop (off + vs.length))
def fillL (pl : List (Nat × Nat)) (z : List Value) : List (Nat × Value) → Option (List Value)
  | [] => some z
  | (i, v) :: rest => match pl[i]? with
    | some (off, size) => if v.cells.toList.length = size ∧ off + v.cells.toList.length ≤ z.length then fillL pl (splice z off v.cells.toList) rest else none
    | none => none
def fillA (size : Nat) (z : List Value) : List (Nat × Value) → Option (List Value)
  | [] => some z
  | (i, v) :: rest => if v.cells.toList.length = size ∧ i * size + v.cells.toList.length ≤ z.length then fillA size (splice z (i * size) v.cells.toList) rest else none
def aggV (o : Option (List Value)) : Option Value :=
  match o with
  | some l => some (.agg l.toArray)
  | none => none
def buildV (P : Program) (t : TypeId) (parts : List (Nat × Value)) : Option Value :=
  match bldP P t with
  | some (z, pl) => aggV (fillL pl z parts)
  | none => match arrP P t with
    | some (z, n) => aggV (fillA n z parts)
    | none => none
def partV (g : Bool) (off n : Nat) (cs : List Value) : Option Value :=
  match g with
  | true => some (.agg ((cs.drop off).take n).toArray)
  | false => cs[off]?
def fieldOfV (P : Program) (s : TypeId) (x : Value) (f : Nat) : Option Value :=
  match fldP P s f with
  | some (g, off, n) => match x with
    | .agg cs => partV g off n cs.toList
    | _ => none
  | none => none
def lenV (P : Program) (t : TypeId) (x : Value) : Option Value :=
  match kindP P t with
  | 3 => match x with | .string s => some (.int .i64 s.size) | _ => none
  | 5 => match x with | .slice _ n _ => some (.int .i64 n) | _ => none
  | _ => match P.underlying t with | some (.array n _) => some (.int .i64 n) | _ => none
def lenBV (P : Program) (ts : Array TypeId) (vs : List Value) : Option Value :=
  match ts[0]? with
  | some t => match vs with | [x] => lenV P t x | _ => none
  | none => none
def min2V (x y : Value) : Option Value :=
  match x, y with
  | .int k a, .int _ b => some (.int k (if b < a then b else a))
  | _, _ => none
def max2V (x y : Value) : Option Value :=
  match x, y with
  | .int k a, .int _ b => some (.int k (if b > a then b else a))
  | _, _ => none
def foldV (f : Value → Value → Option Value) : Value → List Value → Option Value
  | x, [] => some x
  | x, y :: l => match f x y with | some z => foldV f z l | none => none
def minV : List Value → Option Value
  | x :: l => foldV min2V x l
  | [] => none
def maxV : List Value → Option Value
  | x :: l => foldV max2V x l
  | [] => none
/-- A slice expression's bound. -/
def boundV (x : Option Value) (d : Nat) (top : Nat) : Option Nat :=
  match x with
  | none => some d
  | some (.int _ n) => if 0 ≤ n ∧ n ≤ top then some n.toNat else none
  | _ => none
def sliceV (P : Program) (t : TypeId) (x : Value) (lo hi mx : Option Value) : Option Value :=
  match P.underlying t with
  | some .string => match x with
    | .string s => match mx with
      | some _ => none
      | none => match boundV hi s.size s.size with
        | some h => match boundV lo 0 h with | some l => some (.string (s.extract l h)) | none => none
        | none => none
    | _ => none
  | some (.slice e) => match P.info? e with
    | none => none
    | some i => match x with
      | .slice a len cap => match mx with
        | none => match boundV hi len cap with
          | some h => match boundV lo 0 h with
            | some l => some (.slice (if cap = l then a else a.map (·.add (l * i.size))) (h - l) (cap - l))
            | none => none
          | none => none
        | some _ => match hi with
          | none => none
          | some _ => match boundV mx 0 cap with
            | some m => match boundV hi 0 m with
              | some h => match boundV lo 0 h with
                | some l => some (.slice (if m = l then a else a.map (·.add (l * i.size))) (h - l) (m - l))
                | none => none
              | none => none
            | none => none
      | _ => none
  | _ => none
def convV (P : Program) (s d : TypeId) (x : Value) : Option Value :=
  match P.underlying s with
  | none => none
  | some _ => match P.underlying d with
    | some (.int k) => match x with | .int _ n => some (.int k (k.wrap n)) | _ => none
    | _ => none
/-- A string's byte. -/
def charV (P : Program) (t : TypeId) (x i : Value) : Option Value :=
  match P.underlying t with
  | some .string => match x, i with
    | .string s, .int _ n => if 0 ≤ n then match s[n.toNat]? with | some b => some (.int .u8 b.toNat) | none => none else none
    | _, _ => none
  | _ => none
def rdL (P : Program) (t : TypeId) (l : List Value) (o : Nat) : Option Value :=
  match lay P t with
  | some (true, n) => if o + n ≤ l.length then some (.agg ((l.drop o).take n).toArray) else none
  | some (false, _) => l[o]?
  | none => none
/-- What a variable holds. -/
def rd (P : Program) (t : TypeId) (w : World) (x : Value) : Option Value :=
  match x with
  | .pointer (some ⟨b, o, none⟩) => match w.heap[b]? with
    | some (.cells c _ _) => rdL P t c.toList o
    | _ => none
  | _ => none
/-- What of a row is frozen lies behind it. -/
def Thaw (f : Nat × Nat) (n : Nat) : Prop := f = (0, 0) ∨ n ≤ f.1
instance (f : Nat × Nat) (n : Nat) : Decidable (Thaw f n) := inferInstanceAs (Decidable (_ ∨ _))
def World.putB (w : World) (b : Nat) (o : Obj) : World := { w with heap := w.heap.setIfInBounds b o }
/-- A variable is given a value. -/
def wr (P : Program) (t : TypeId) (w : World) (x v : Value) : Option World :=
  match x with
  | .pointer (some ⟨b, o, none⟩) => match w.heap[b]? with
    | some (.cells c T f) => match lay P t with
      | some (_, n) => if Thaw f c.toList.length ∧ v.cells.toList.length = n ∧ o + v.cells.toList.length ≤ c.toList.length ∧ v.cells.toList.all (·.oneCell') = true then
          some (World.putB w b (.cells (splice c.toList o v.cells.toList).toArray T f)) else none
      | none => none
    | _ => none
  | _ => none
def elemP (P : Program) (t : TypeId) : Option (TypeId × Nat) :=
  match P.underlying t with
  | some (.slice e) => match P.info? e with | some i => some (e, i.size) | none => none
  | _ => none
/-- The cells of a new row out of a slice's literal. -/
def rowV (P : Program) (e size n : Nat) (parts : List (Nat × Value)) : Option (List Value) :=
  match zeroP P e with
  | some z => if n * size ≤ 16777216 then fillA size ((List.range (n * size)).map fun i => z.cells[i % z.cells.size]!) parts else none
  | none => none
section
variable {P : Program}
theorem run_und {t : TypeId} {d : TypeDesc} (h : P.underlying t = some d) (w : World) : (underlying t).run P w = .ok d w := run_underlying h w
theorem run_info {t : TypeId} {i : TypeInfo} (h : P.info? t = some i) (w : World) : (typeInfo t).run P w = .ok i w := by simp [typeInfo, h]
theorem run_size {t : TypeId} {i : TypeInfo} (h : P.info? t = some i) (w : World) : (sizeOf t).run P w = .ok i.size w := by simp [sizeOf, run_info h]
theorem add_lit (b o n : Nat) : Addr.add ⟨b, o, none⟩ n = ⟨b, o + n, none⟩ := Addr.add_lit b o n
theorem offP_out {s : TypeId} {f n : Nat} (h : offP P s f = some n) : ∃ fs fd i, P.underlying s = some (.struct fs) ∧ fs[f]? = some fd ∧ P.info? fd.type = some i ∧ i.size ≠ 0 ∧ fd.offset = n := by
  unfold offP at h
  cases hu : P.underlying s with
  | none => rw [hu] at h; cases h
  | some d =>
    rw [hu] at h
    cases d with
    | struct fs =>
      simp only at h
      cases hf : fs[f]? with
      | none => rw [hf] at h; cases h
      | some fd =>
        rw [hf] at h
        simp only at h
        cases hi : P.info? fd.type with
        | none => rw [hi] at h; cases h
        | some i =>
          rw [hi] at h
          simp only at h
          cases hs : i.size with
          | zero => rw [hs] at h; cases h
          | succ k => rw [hs] at h; cases h; exact ⟨fs, fd, i, rfl, hf, hi, by omega, rfl⟩
    | _ => cases h
theorem run_fieldV {s : TypeId} {x v : Value} {f : Nat} (h : fieldV P s x f = some v) (w : World) : (Instr.fieldAt s x f).run P w = .ok v w := by
  unfold fieldV at h
  cases ho : offP P s f with
  | none => rw [ho] at h; cases h
  | some n =>
    rw [ho] at h
    obtain ⟨fs, fd, i, hu, hf, hi, hs, rfl⟩ := offP_out ho
    simp only at h
    split at h
    · rename_i b o
      cases h
      simp [Instr.fieldAt, run_und hu, hf, Instr.sureAddr, fieldPlace, run_size hi, hs, add_lit]
    · cases h
theorem run_indexV {t : TypeId} {x i v : Value} (h : indexV P t x i = some v) (w : World) : (Instr.indexAt t x i).run P w = .ok v w := by
  unfold indexV at h
  unfold idxP at h
  cases hu : P.underlying t with
  | none => rw [hu] at h; cases h
  | some d =>
    rw [hu] at h
    cases d with
    | slice e =>
      simp only at h
      cases hi : P.info? e with
      | none => rw [hi] at h; cases h
      | some ie =>
        rw [hi] at h
        simp only at h
        split at h
        · rename_i b o len c k n
          split at h
          · rename_i hn
            cases h
            simp [Instr.indexAt, asIntOf, run_und hu, run_size hi, hn, add_lit]
          · cases h
        · cases h
    | array len e =>
      simp only at h
      cases hi : P.info? e with
      | none => rw [hi] at h; cases h
      | some ie =>
        rw [hi] at h
        simp only at h
        split at h
        · rename_i b o k n
          split at h
          · rename_i hn
            cases h
            simp [Instr.indexAt, asIntOf, run_und hu, run_size hi, hn, add_lit, Instr.sureAddr]
          · cases h
        · cases h
    | _ => cases h
theorem cmpV_out {op : BinOp} {b : Bool} {v : Value} (h : cmpV op b = some v) : (op = .eql ∧ v = .bool b) ∨ (op = .neq ∧ v = .bool !b) := by
  unfold cmpV at h
  cases op <;> simp at h <;> simp [h]
theorem kindP_bool {t : TypeId} (h : kindP P t = 1) : P.underlying t = some .bool := by
  unfold kindP at h; split at h <;> first | assumption | cases h
theorem kindP_string {t : TypeId} (h : kindP P t = 3) : P.underlying t = some .string := by
  unfold kindP at h; split at h <;> first | assumption | cases h
theorem kindP_pointer {t : TypeId} (h : kindP P t = 4) : ∃ e, P.underlying t = some (.pointer e) := by
  unfold kindP at h; split at h <;> first | exact ⟨_, by assumption⟩ | cases h
theorem kindP_slice {t : TypeId} (h : kindP P t = 5) : ∃ e, P.underlying t = some (.slice e) := by
  unfold kindP at h; split at h <;> first | exact ⟨_, by assumption⟩ | cases h
theorem kindP_func {t : TypeId} (h : kindP P t = 7) : ∃ a b c, P.underlying t = some (.func a b c) := by
  unfold kindP at h; split at h <;> first | exact ⟨_, _, _, by assumption⟩ | cases h
theorem run_cmp {op : BinOp} {t : TypeId} {x y v : Value} {b : Bool} (h : cmpV op b = some v) (w : World)
    (hb : ∀ o, binOp o t x y = match o with | .eql => (do pure (.bool (← Op.equal t x y))) | .neq => (do pure (.bool (!(← Op.equal t x y)))) | o => binOp o t x y)
    (he : (Op.equal t x y).run P w = .ok b w) : (binOp op t x y).run P w = .ok v w := by
  rcases cmpV_out h with ⟨rfl, rfl⟩ | ⟨rfl, rfl⟩
  · rw [hb]; simp [he]
  · rw [hb]; simp [he]
theorem eqIn_bool (d : Nat) {t : TypeId} (a b : Bool) (h : P.underlying t = some .bool) (w : World) : (Op.equalIn (d + 1) t (.bool a) (.bool b)).run P w = .ok (a == b) w := by
  simp [Op.equalIn, run_und h]
theorem eqIn_ptr (d : Nat) {t e : TypeId} (a : Option Addr) (h : P.underlying t = some (.pointer e)) (w : World) : (Op.equalIn (d + 1) t (.pointer a) (.pointer none)).run P w = .ok a.isNone w := by
  cases a <;> simp [Op.equalIn, run_und h]
theorem eqIn_slice (d : Nat) {t e : TypeId} (a : Option Addr) (l c l' c' : Nat) (h : P.underlying t = some (.slice e)) (w : World) : (Op.equalIn (d + 1) t (.slice a l c) (.slice none l' c')).run P w = .ok a.isNone w := by
  cases a <;> simp [Op.equalIn, run_und h]
theorem eqIn_func (d : Nat) {t : TypeId} {p r : Array TypeId} {v : Bool} (f : Fn) (a c : Array Value) (h : P.underlying t = some (.func p r v)) (w : World) : (Op.equalIn (d + 1) t (.func f a c) .nilFunc).run P w = .ok false w := by
  simp [Op.equalIn, run_und h]
theorem eqIn_func0 (d : Nat) {t : TypeId} {p r : Array TypeId} {v : Bool} (h : P.underlying t = some (.func p r v)) (w : World) : (Op.equalIn (d + 1) t .nilFunc .nilFunc).run P w = .ok true w := by
  simp [Op.equalIn, run_und h]
theorem run_binV {op : BinOp} {t : TypeId} {x y v : Value} (h : binV P op t x y = some v) (w : World) : (binOp op t x y).run P w = .ok v w := by
  unfold binV at h
  split at h
  · rename_i k a k' b
    split at h
    · unfold shiftV at h
      split at h
      · cases h
      · rename_i hn; cases h; simp [binOp, Op.shift, hn]
    · unfold shiftV at h
      split at h
      · cases h
      · rename_i hn; cases h; simp [binOp, Op.shift, hn]
    · rename_i h1 h2
      split at h
      · rename_i hk
        subst hk
        unfold intV at h
        cases op <;> simp only [reduceCtorEq] at h
        case quo => split at h; cases h; rename_i hb; cases h; simp [binOp, Op.intDiv, hb]
        case rem => split at h; cases h; rename_i hb; cases h; simp [binOp, Op.intDiv, hb]
        all_goals (cases h; simp [binOp, Op.intArith, Op.intBits, Op.intCmp])
      · cases h
  · rename_i a b
    unfold strV at h
    cases op <;> simp only [reduceCtorEq] at h
    case add =>
      split at h
      · rename_i hl
        cases h
        have : ¬ (((a.size + b.size : Nat) : Int) > IntKind.i64.max) := by
          have : IntKind.i64.max = 9223372036854775807 := by decide
          rw [this]; omega
        simp only [binOp, Op.stringOp, if_neg this]; rfl
      · cases h
    all_goals (cases h; simp [binOp, Op.stringOp])
  · split at h
    · rename_i a b hk
      refine run_cmp h w (fun o => by cases o <;> rfl) ?_
      exact eqIn_bool 9999 _ _ (kindP_bool hk) w
    · cases h
  · split at h
    · rename_i a _ hk
      obtain ⟨e, he⟩ := kindP_pointer hk
      exact run_cmp h w (fun o => by cases o <;> cases a <;> rfl) (eqIn_ptr 9999 _ he w)
    · cases h
  · split at h
    · rename_i hk
      obtain ⟨e, he⟩ := kindP_slice hk
      exact run_cmp h w (fun o => by cases o <;> rfl) (eqIn_slice 9999 _ _ _ _ _ he w)
    · cases h
  · split at h
    · rename_i hk
      obtain ⟨_, _, _, he⟩ := kindP_func hk
      exact run_cmp h w (fun o => by cases o <;> rfl) (eqIn_func 9999 _ _ _ he w)
    · cases h
  · split at h
    · rename_i hk
      obtain ⟨_, _, _, he⟩ := kindP_func hk
      exact run_cmp h w (fun o => by cases o <;> rfl) (eqIn_func0 9999 he w)
    · cases h
  · cases h
theorem run_unV {op : UnOp} {x v : Value} (h : unV op x = some v) (w : World) : (Op.unary op x).run P w = .ok v w := by
  unfold unV at h
  split at h <;> cases h <;> simp [Op.unary, Op.intArith, Op.intBits]
theorem run_extractV {x v : Value} {i : Nat} (h : extractV x i = some v) (w : World) : (Instr.extract x i).run P w = .ok v w := by
  unfold extractV at h
  split at h
  · simp [Instr.extract, h]
  · cases h
theorem placesP_out : ∀ {fs : List Field} {l : List (Nat × Nat)}, placesP P fs = some l → fs.mapM (fun f => (P.info? f.type).map fun i => (f.offset, i.size)) = some l
  | [], l, h => by simpa [placesP] using h
  | f :: fs, l, h => by
    unfold placesP at h
    cases hi : P.info? f.type with
    | none => rw [hi] at h; cases h
    | some i =>
      rw [hi] at h
      simp only at h
      cases hr : placesP P fs with
      | none => rw [hr] at h; cases h
      | some r =>
        rw [hr] at h
        cases h
        simp [List.mapM_cons, hi, placesP_out hr]
theorem foldl_splice (off : Nat) : ∀ (vs : List Value) (n : Nat) (c : List Value), off + n + vs.length ≤ c.length →
    (vs.zipIdx n).foldl (fun (cs : Array Value) (p : Value × Nat) => cs.setIfInBounds (off + p.2) p.1) c.toArray = (splice c (off + n) vs).toArray
  | [], n, c, h => by simp [splice]
  | v :: vs, n, c, h => by
    simp only [List.length_cons] at h
    simp only [List.zipIdx_cons, List.foldl_cons]
    have h1 : c.toArray.setIfInBounds (off + n) v = (c.set (off + n) v).toArray := by simp
    rw [h1, foldl_splice off vs (n + 1) (c.set (off + n) v) (by simp; omega)]
    congr 1
    unfold splice
    apply List.ext_getElem?
    intro k
    simp only [List.getElem?_append, List.length_take, List.length_set, List.getElem?_take, List.getElem?_set, List.getElem?_drop, List.length_cons]
    by_cases h2 : k < off + n
    · have h3 : k < min (off + (n + 1)) c.length := by omega
      have h4 : k < min (off + n) c.length := by omega
      have h5 : k < off + (n + 1) := by omega
      have h6 : ¬ off + n = k := by omega
      simp [h2, h3, h4, h5, h6]
    · by_cases h3 : k = off + n
      · subst h3
        have h4 : off + n < min (off + (n + 1)) c.length := by omega
        have h5 : ¬ off + n < min (off + n) c.length := by omega
        have h6 : off + n < off + (n + 1) := by omega
        have h7 : off + n < c.length := by omega
        have h8 : off + n - min (off + n) c.length = 0 := by omega
        simp [h4, h5, h6, h7, h8]
      · have h4 : ¬ k < min (off + (n + 1)) c.length := by omega
        have h5 : ¬ k < min (off + n) c.length := by omega
        have h6 : k - min (off + n) c.length = (k - min (off + (n + 1)) c.length) + 1 := by omega
        simp only [h4, h5, if_false, h6, List.getElem?_cons_succ, Nat.add_lt_add_iff_right]
        by_cases h7 : k - min (off + (n + 1)) c.length < vs.length
        · simp [h7]
        · have h8 : ¬ off + n = off + (n + 1) + vs.length + (k - min (off + (n + 1)) c.length - vs.length) := by omega
          simp only [h7, if_false, h8]
          congr 1
          omega
theorem fill_step {pl : Nat → Option (Nat × Nat)} {i off size : Nat} {v : Value} {z : List Value} {rest : List (Nat × Value)} (hp : pl i = some (off, size))
    (h : v.cells.toList.length = size ∧ off + v.cells.toList.length ≤ z.length) :
    Instr.fill pl z.toArray ((i, v) :: rest) = Instr.fill pl (splice z off v.cells.toList).toArray rest := by
  rw [Instr.fill, hp]
  have h1 : (v.cells.size ≠ size || off + v.cells.size > z.toArray.size) = false := by
    have h2 : v.cells.size = size := by simpa using h.1
    have h3 : ¬ (off + v.cells.size > z.length) := by have := h.2; simp at this; omega
    have h4 : ¬ (off + size > z.length) := by rw [h2] at h3; exact h3
    simp [h2, h4]
  simp only [h1, Bool.false_eq_true, if_false]
  congr 1
  have := foldl_splice off v.cells.toList 0 z (by have := h.2; omega)
  rw [Nat.add_zero] at this
  rw [← this]
  have h5 : v.cells.zipIdx = (v.cells.toList.zipIdx 0).toArray := by apply Array.ext'; simp
  rw [h5, List.foldl_toArray]
theorem fillL_out {pl : List (Nat × Nat)} : ∀ {parts : List (Nat × Value)} {z l : List Value}, fillL pl z parts = some l →
    Instr.fill (pl.toArray[·]?) z.toArray parts = some l.toArray
  | [], z, l, h => by simp only [fillL, Option.some.injEq] at h; subst h; rfl
  | (i, v) :: rest, z, l, h => by
    unfold fillL at h
    cases hp : pl[i]? with
    | none => rw [hp] at h; cases h
    | some os =>
      obtain ⟨off, size⟩ := os
      rw [hp] at h
      simp only at h
      split at h
      · rename_i hc
        rw [fill_step (by simpa using hp) hc]
        exact fillL_out h
      · cases h
theorem fillA_out {size : Nat} : ∀ {parts : List (Nat × Value)} {z l : List Value}, fillA size z parts = some l →
    Instr.fill (fun i => some (i * size, size)) z.toArray parts = some l.toArray
  | [], z, l, h => by simp only [fillA, Option.some.injEq] at h; subst h; rfl
  | (i, v) :: rest, z, l, h => by
    unfold fillA at h
    split at h
    · rename_i hc
      rw [fill_step rfl hc]
      exact fillA_out h
    · cases h
theorem zeroP_out {t : TypeId} {z : Value} (h : zeroP P t = some z) : ∃ i, P.info? t = some i ∧ i.zero = some z := by
  unfold zeroP at h
  cases hi : P.info? t with
  | none => rw [hi] at h; cases h
  | some i => rw [hi] at h; exact ⟨i, rfl, h⟩
theorem run_buildV {t : TypeId} {parts : List (Nat × Value)} {v : Value} (h : buildV P t parts = some v) (w : World) : (Instr.build t parts.toArray).run P w = .ok v w := by
  unfold buildV at h
  cases hb : bldP P t with
  | some zp =>
    obtain ⟨z, pl⟩ := zp
    rw [hb] at h
    simp only at h
    cases hf : fillL pl z parts with
    | none => rw [hf] at h; cases h
    | some l =>
      rw [hf] at h
      cases h
      refine run_build w t parts.toArray l.toArray ?_
      unfold bldP at hb
      cases hu : P.underlying t with
      | none => rw [hu] at hb; cases hb
      | some d =>
        rw [hu] at hb
        cases d with
        | struct fs =>
          simp only at hb
          cases hz : zeroP P t with
          | none => rw [hz] at hb; cases hb
          | some zv =>
            rw [hz] at hb
            simp only at hb
            cases hp : placesP P fs.toList with
            | none => rw [hp] at hb; cases hb
            | some l' =>
              rw [hp] at hb
              cases hb
              obtain ⟨i, hi, hzi⟩ := zeroP_out hz
              have := fillL_out hf
              simp only [Program.built, hi, hu, hzi, placesP_out hp]
              simpa using this
        | _ => cases hb
  | none =>
    rw [hb] at h
    simp only at h
    cases ha : arrP P t with
    | none => rw [ha] at h; cases h
    | some zn =>
      obtain ⟨z, n⟩ := zn
      rw [ha] at h
      simp only at h
      cases hf : fillA n z parts with
      | none => rw [hf] at h; cases h
      | some l =>
        rw [hf] at h
        cases h
        refine run_build w t parts.toArray l.toArray ?_
        unfold arrP at ha
        cases hu : P.underlying t with
        | none => rw [hu] at ha; cases ha
        | some d =>
          rw [hu] at ha
          cases d with
          | array len e =>
            simp only at ha
            cases hz : zeroP P t with
            | none => rw [hz] at ha; cases ha
            | some zv =>
              rw [hz] at ha
              simp only at ha
              cases hi : P.info? e with
              | none => rw [hi] at ha; cases ha
              | some ie =>
                rw [hi] at ha
                cases ha
                obtain ⟨i, hit, hzi⟩ := zeroP_out hz
                have := fillA_out hf
                simp only [Program.built, hit, hu, hzi, hi]
                simpa using this
          | _ => cases ha
theorem lay_out {t : TypeId} {g : Bool} {n : Nat} (h : lay P t = some (g, n)) : ∃ d i, P.underlying t = some d ∧ P.info? t = some i ∧ i.size = n ∧
    (∀ w : World, (isAgg t).run P w = .ok g w) := by
  unfold lay at h
  cases hu : P.underlying t with
  | none => rw [hu] at h; cases h
  | some d =>
    rw [hu] at h
    simp only at h
    cases hi : P.info? t with
    | none => rw [hi] at h; cases h
    | some i =>
      rw [hi] at h
      simp only at h
      cases d <;> cases h <;> exact ⟨_, i, rfl, rfl, rfl, fun w => by simp [isAgg, run_und hu]⟩
theorem run_part {t : TypeId} {g : Bool} {off n : Nat} {cs : Array Value} {v : Value} (hl : lay P t = some (g, n)) (h : partV g off n cs.toList = some v) (w : World) :
    (part t cs off).run P w = .ok v w := by
  obtain ⟨d, i, hu, hi, hs, hg⟩ := lay_out hl
  unfold part
  rw [Sem.run_bind, hg w]
  simp only [Result.andThen_ok]
  cases g with
  | true =>
    cases h
    simp only [if_true, Sem.run_bind, run_size hi, Result.andThen_ok, Sem.run_pure, hs]
    congr 2
    apply Array.ext'
    simp [List.extract]
  | false =>
    simp only [partV] at h
    have : cs[off]? = some v := by simpa using h
    simp [this]
theorem run_fieldOfV {s : TypeId} {x v : Value} {f : Nat} (h : fieldOfV P s x f = some v) (w : World) : (Instr.field s x f).run P w = .ok v w := by
  unfold fieldOfV fldP at h
  cases hu : P.underlying s with
  | none => rw [hu] at h; cases h
  | some d =>
    rw [hu] at h
    cases d with
    | struct fs =>
      simp only at h
      cases hf : fs[f]? with
      | none => rw [hf] at h; cases h
      | some fd =>
        rw [hf] at h
        simp only at h
        cases hl : lay P fd.type with
        | none => rw [hl] at h; cases h
        | some gn =>
          obtain ⟨g, n⟩ := gn
          rw [hl] at h
          simp only at h
          cases x with
          | agg cs =>
            simp only at h
            simp [Instr.field, run_und hu, hf, asAgg, run_part hl h]
          | _ => cases h
    | _ => cases h
theorem run_lenV {t ty : TypeId} {x v : Value} (h : lenV P t x = some v) (w : World) : (Builtin.len_ #[t] ty #[x]).run P w = .ok v w := by
  unfold lenV at h
  split at h
  · rename_i hk
    have hu := kindP_string hk
    cases x <;> cases h
    simp [Builtin.len_, run_und hu, goInt]
  · rename_i hk
    obtain ⟨e, hu⟩ := kindP_slice hk
    cases x <;> cases h
    simp [Builtin.len_, run_und hu, goInt]
  · split at h
    · rename_i n e hu
      cases h
      simp [Builtin.len_, run_und hu, goInt]
    · cases h
theorem run_lenBV {ts : Array TypeId} {ty : TypeId} {vs : List Value} {v : Value} (h : lenBV P ts vs = some v) (w : World) : (Builtin.len_ ts ty vs.toArray).run P w = .ok v w := by
  unfold lenBV at h
  cases ht : ts[0]? with
  | none => rw [ht] at h; cases h
  | some t =>
    rw [ht] at h
    simp only at h
    match vs, h with
    | [x], h =>
      have := run_lenV (ty := ty) h w
      unfold Builtin.len_ at this ⊢
      simpa [ht] using this
theorem run_foldV {f : Value → Value → Option Value} {g : Value → Value → Sem Value} (hfg : ∀ x y z, f x y = some z → ∀ w : World, (g x y).run P w = .ok z w) :
    ∀ {l : List Value} {x v : Value}, foldV f x l = some v → ∀ w : World, (l.foldlM g x).run P w = .ok v w
  | [], x, v, h, w => by simp only [foldV, Option.some.injEq] at h; subst h; simp
  | y :: l, x, v, h, w => by
    unfold foldV at h
    cases hz : f x y with
    | none => rw [hz] at h; cases h
    | some z =>
      rw [hz] at h
      simp [List.foldlM_cons, hfg x y z hz w, run_foldV hfg h w]
theorem run_minV {ts : Array TypeId} {ty : TypeId} {vs : List Value} {v : Value} (h : minV vs = some v) (w : World) : (Builtin.min_ ts ty vs.toArray).run P w = .ok v w := by
  cases vs with
  | nil => cases h
  | cons x l =>
    simp only [Builtin.min_]
    refine run_foldV (f := min2V) ?_ h w
    intro x y z hz w
    unfold min2V at hz
    split at hz <;> cases hz
    simp [Builtin.min2]
theorem run_maxV {ts : Array TypeId} {ty : TypeId} {vs : List Value} {v : Value} (h : maxV vs = some v) (w : World) : (Builtin.max_ ts ty vs.toArray).run P w = .ok v w := by
  cases vs with
  | nil => cases h
  | cons x l =>
    simp only [Builtin.max_]
    refine run_foldV (f := max2V) ?_ h w
    intro x y z hz w
    unfold max2V at hz
    split at hz <;> cases hz
    simp [Builtin.max2]
theorem run_bound {x : Value} {top n : Nat} {c : BoundsCode} {d : Nat} (h : boundV (some x) d top = some n) (w : World) : (Instr.sliceBound x top c).run P w = .ok n w := by
  unfold boundV at h
  cases x with
  | int k m =>
    simp only at h
    split at h
    · rename_i hm; cases h; simp [Instr.sliceBound, asIntOf, hm]
    · cases h
  | _ => cases h
theorem run_bounds {isS : Bool} {len cap h l : Nat} {lo hi : Option Value} (hh : boundV hi len cap = some h) (hl : boundV lo 0 h = some l) (w : World) :
    (Instr.sliceBounds isS len cap lo hi none).run P w = .ok (l, h, cap) w := by
  unfold Instr.sliceBounds
  cases hi with
  | none =>
    simp only [boundV, Option.some.injEq] at hh
    subst hh
    cases lo with
    | none => simp only [boundV, Option.some.injEq] at hl; subst hl; simp
    | some lv => simp [run_bound hl]
  | some hv =>
    cases lo with
    | none => simp only [boundV, Option.some.injEq] at hl; subst hl; simp [run_bound hh]
    | some lv => simp [run_bound hl, run_bound hh]
theorem run_bounds3 {isS : Bool} {len cap h l m : Nat} {lo : Option Value} {hv mv : Value} (hm : boundV (some mv) 0 cap = some m) (hh : boundV (some hv) 0 m = some h) (hl : boundV lo 0 h = some l) (w : World) :
    (Instr.sliceBounds isS len cap lo (some hv) (some mv)).run P w = .ok (l, h, m) w := by
  unfold Instr.sliceBounds
  cases lo with
  | none => simp only [boundV, Option.some.injEq] at hl; subst hl; simp [run_bound hh, run_bound hm]
  | some lv => simp [run_bound hl, run_bound hh, run_bound hm]
theorem run_sliceV {t : TypeId} {x v : Value} {lo hi mx : Option Value} (h : sliceV P t x lo hi mx = some v) (w : World) : (Instr.sliceAt t x lo hi mx).run P w = .ok v w := by
  unfold sliceV at h
  split at h
  · rename_i hu
    cases x with
    | string s =>
      simp only at h
      cases mx with
      | some _ => cases h
      | none =>
        simp only at h
        cases hh : boundV hi s.size s.size with
        | none => rw [hh] at h; cases h
        | some hn =>
          rw [hh] at h
          simp only at h
          cases hl : boundV lo 0 hn with
          | none => rw [hl] at h; cases h
          | some ln =>
            rw [hl] at h
            cases h
            simp [Instr.sliceAt, Instr.slice, run_und hu, run_bounds hh hl]
    | _ => cases h
  · rename_i e hu
    cases hi' : P.info? e with
    | none => rw [hi'] at h; cases h
    | some i =>
      rw [hi'] at h
      simp only at h
      cases x with
      | slice a len cap =>
        simp only at h
        cases mx with
        | none =>
          simp only at h
          cases hh : boundV hi len cap with
          | none => rw [hh] at h; cases h
          | some hn =>
            rw [hh] at h
            simp only at h
            cases hl : boundV lo 0 hn with
            | none => rw [hl] at h; cases h
            | some ln =>
              rw [hl] at h
              cases h
              simp [Instr.sliceAt, Instr.slice, run_und hu, run_bounds hh hl, run_size hi']
        | some mv =>
          simp only at h
          cases hi with
          | none => cases h
          | some hv =>
            simp only at h
            cases hm : boundV (some mv) 0 cap with
            | none => rw [hm] at h; cases h
            | some m =>
              rw [hm] at h
              simp only at h
              cases hh : boundV (some hv) 0 m with
              | none => rw [hh] at h; cases h
              | some hn =>
                rw [hh] at h
                simp only at h
                cases hl : boundV lo 0 hn with
                | none => rw [hl] at h; cases h
                | some ln =>
                  rw [hl] at h
                  cases h
                  simp [Instr.sliceAt, Instr.slice, run_und hu, run_bounds3 hm hh hl, run_size hi']
      | _ => cases h
  · cases h
theorem run_convV {s d : TypeId} {x v : Value} (h : convV P s d x = some v) (w : World) : (convert s d x).run P w = .ok v w := by
  unfold convV at h
  cases hs : P.underlying s with
  | none => rw [hs] at h; cases h
  | some ds =>
    rw [hs] at h
    simp only at h
    split at h
    · rename_i k hd
      cases x <;> cases h
      unfold convert
      rw [Sem.run_bind, run_und hs]
      simp only [Result.andThen_ok, Sem.run_bind, run_und hd]
      cases ds <;> rfl
    · cases h
theorem run_charV {t : TypeId} {x i v : Value} (h : charV P t x i = some v) (w : World) : (Instr.index t x i).run P w = .ok v w := by
  unfold charV at h
  split at h
  · rename_i hu
    split at h
    · rename_i s k n
      split at h
      · rename_i hn
        cases hs : s[n.toNat]? with
        | none => rw [hs] at h; cases h
        | some b =>
          rw [hs] at h
          cases h
          simp [Instr.index, asIntOf, run_und hu, hn, hs]
      · cases h
    · cases h
  · cases h
theorem run_rd {t : TypeId} {x v : Value} {w : World} (h : rd P t w x = some v) : (Instr.loadAt t x).run P w = .ok v w := by
  unfold rd at h
  split at h
  · rename_i b o
    split at h
    · rename_i c T f hb
      unfold rdL at h
      cases hl : lay P t with
      | none => rw [hl] at h; cases h
      | some gn =>
        obtain ⟨g, n⟩ := gn
        rw [hl] at h
        obtain ⟨d, i, hu, hi, hs, hg⟩ := lay_out hl
        have hcell : ∀ k, w.cell? ⟨b, o + k, none⟩ = c[o + k]? := fun k => by simp [World.cell?, hb]
        cases g with
        | true =>
          simp only at h
          split at h
          · rename_i hle
            cases h
            have hlen : ((c.toList.drop o).take n).length = n := by simp at hle ⊢; omega
            have hload := run_loadCells_list (P := P) w ⟨b, o, none⟩ ((c.toList.drop o).take n) (fun j u hj => by
              rw [add_lit, hcell]
              have hjn : j < n := by rw [← hlen]; exact (List.getElem?_eq_some_iff.1 hj).1
              simp only [List.getElem?_take, if_pos hjn, List.getElem?_drop] at hj
              simpa using hj)
            rw [hlen] at hload
            simp [Instr.loadAt, Instr.sureAddr, loadVar, hg w, run_size hi, hs, hload]
          · cases h
        | false =>
          simp only at h
          have : w.cell? ⟨b, o, none⟩ = some v := by simp [World.cell?, hb]; simpa using h
          simp [Instr.loadAt, Instr.sureAddr, loadVar, hg w, this]
    · cases h
  · cases h
theorem putB_self {w : World} {b : Nat} {o : Obj} (h : w.heap[b]? = some o) : World.putB w b o = w := by
  have hlt : b < w.heap.size := (Array.getElem?_eq_some_iff.1 h).1
  have hv : w.heap[b] = o := (Array.getElem?_eq_some_iff.1 h).2
  unfold World.putB
  cases w with
  | mk heap tape drawn os output =>
    congr 1
    apply Array.ext_getElem?
    intro k
    rw [Array.getElem?_setIfInBounds]
    by_cases hk : b = k
    · subst hk
      simp only [if_true]
      rw [if_pos hlt]
      exact h.symm
    · rw [if_neg hk]
theorem putB_same {w : World} {b : Nat} {o : Obj} (h : b < w.heap.size) : (World.putB w b o).heap[b]? = some o := by
  simp [World.putB, h]
theorem putB_other {w : World} {b c : Nat} {o : Obj} (h : b ≠ c) : (World.putB w b o).heap[c]? = w.heap[c]? := by
  simp [World.putB, Array.getElem?_setIfInBounds_ne h]
theorem putB_putB {w : World} {b : Nat} {o o' : Obj} : World.putB (World.putB w b o) b o' = World.putB w b o' := by
  simp [World.putB]
theorem putB_size {w : World} {b : Nat} {o : Obj} : (World.putB w b o).heap.size = w.heap.size := by simp [World.putB]
theorem setCell_putB {w : World} {b o : Nat} {c : List Value} {T : TypeId} {f : Nat × Nat} {v : Value} (h : w.heap[b]? = some (.cells c.toArray T f)) :
    w.setCell ⟨b, o, none⟩ v = World.putB w b (.cells (c.set o v).toArray T f) := by
  have hlt : b < w.heap.size := (Array.getElem?_eq_some_iff.1 h).1
  have hv : w.heap[b] = .cells c.toArray T f := (Array.getElem?_eq_some_iff.1 h).2
  unfold World.setCell World.putB
  congr 1
  apply Array.ext_getElem?
  intro k
  rw [Array.getElem?_setIfInBounds, Array.getElem?_modify]
  by_cases hk : b = k
  · subst hk
    simp [hlt, hv]
  · simp [hk]
theorem thaw_frozen {w : World} {b o : Nat} {c : List Value} {T : TypeId} {f : Nat × Nat} (hb : w.heap[b]? = some (.cells c.toArray T f)) (ht : Thaw f c.length) (ho : o < c.length) : w.frozen? ⟨b, o, none⟩ = false := by
  unfold World.frozen?
  simp only [hb]
  rcases ht with rfl | ht
  · simp
  · obtain ⟨lo, hi⟩ := f
    simp only at ht ⊢
    have : ¬ lo ≤ o := by omega
    simp [this]
theorem run_storeCells_splice {b : Nat} {T : TypeId} {f : Nat × Nat} (off : Nat) : ∀ (vs : List Value) (i : Nat) (c : List Value) (w : World), w.heap[b]? = some (.cells c.toArray T f) → Thaw f c.length →
    off + i + vs.length ≤ c.length → (∀ v ∈ vs, v.oneCell' = true) →
    (storeCells ⟨b, off, none⟩ vs i).run P w = .ok () (World.putB w b (.cells (splice c (off + i) vs).toArray T f))
  | [], i, c, w, hb, _, hl, _ => by
    have : splice c (off + i) [] = c := by simp [splice]
    rw [this, putB_self hb]
    rfl
  | v :: vs, i, c, w, hb, hth, hl, h1 => by
    simp only [List.length_cons] at hl
    have hlt : b < w.heap.size := (Array.getElem?_eq_some_iff.1 hb).1
    have hin : off + i < c.length := by omega
    have hcell : w.cell? ⟨b, off + i, none⟩ = some c[off + i] := by simp [World.cell?, hb, hin]
    have hfro : w.frozen? ⟨b, off + i, none⟩ = false := thaw_frozen hb hth hin
    have hst : (store ((⟨b, off, none⟩ : Addr).add i) v).run P w = .ok () (World.putB w b (.cells (c.set (off + i) v).toArray T f)) := by
      rw [add_lit, run_store P w _ v _ (h1 v List.mem_cons_self), hcell]
      simp [hfro, setCell_putB hb]
    have ih := run_storeCells_splice off vs (i + 1) (c.set (off + i) v) (World.putB w b (.cells (c.set (off + i) v).toArray T f)) (putB_same hlt) (by simpa using hth) (by simp; omega) (fun x hx => h1 x (List.mem_cons_of_mem _ hx))
    simp only [storeCells, Sem.run_bind, hst, Result.andThen_ok, ih, putB_putB]
    congr 4
    have := foldl_splice 0 vs (off + (i + 1)) (c.set (off + i) v) (by simp; omega)
    have h2 := foldl_splice 0 (v :: vs) (off + i) c (by simp; omega)
    simp only [List.zipIdx_cons, List.foldl_cons, Nat.zero_add] at h2
    simp only [Nat.zero_add] at this
    have h3 : c.toArray.setIfInBounds (off + i) v = (c.set (off + i) v).toArray := by simp
    rw [h3, Nat.add_assoc, this] at h2
    simpa using congrArg Array.toList h2
theorem run_wr {t : TypeId} {x v : Value} {w w' : World} (h : wr P t w x v = some w') : (Instr.storeAt t x v).run P w = .ok () w' := by
  unfold wr at h
  split at h
  · rename_i b o
    split at h
    · rename_i c T f hb
      cases hl : lay P t with
      | none => rw [hl] at h; cases h
      | some gn =>
        obtain ⟨g, n⟩ := gn
        rw [hl] at h
        simp only at h
        split at h
        · rename_i hc
          cases h
          obtain ⟨d, i, hu, hi, hs, hg⟩ := lay_out hl
          have hst := run_storeCells_splice (P := P) o v.cells.toList 0 c.toList w (by simpa using hb) hc.1 (by have := hc.2.2.1; omega) (fun u hu => List.all_eq_true.1 hc.2.2.2 u hu)
          have hsz : ¬ v.cells.size ≠ i.size := by have := hc.2.1; simp at this; omega
          rw [Nat.add_zero] at hst
          have hsz' : v.cells.size = i.size := by simpa using hsz
          simp only [Instr.storeAt, Instr.sureAddr, Sem.run_bind, Sem.run_pure, Result.andThen_ok, storeVar, run_size hi, hsz', ne_eq, not_true, if_false, hst]
        · cases h
    · cases h
  · cases h
theorem elemP_out {t e : TypeId} {n : Nat} (h : elemP P t = some (e, n)) : ∃ i, P.underlying t = some (.slice e) ∧ P.info? e = some i ∧ i.size = n := by
  unfold elemP at h
  split at h
  · rename_i e' hu
    cases hi : P.info? e' with
    | none => rw [hi] at h; cases h
    | some i => rw [hi] at h; cases h; exact ⟨i, hu, hi, rfl⟩
  · cases h
theorem run_rowV {t e : TypeId} {n len : Nat} {parts : List (Nat × Value)} {l : List Value} (he : elemP P t = some (e, n)) (h : rowV P e n len parts = some l) (w : World) :
    (Instr.buildSlice t len parts.toArray).run P w = .ok (.slice (some ⟨w.heap.size, 0, none⟩) len len) (w.alloc (.cells l.toArray e)) := by
  obtain ⟨i, hu, hi, hs⟩ := elemP_out he
  unfold rowV at h
  cases hz : zeroP P e with
  | none => rw [hz] at h; cases h
  | some z =>
    rw [hz] at h
    simp only at h
    split at h
    · rename_i hle
      obtain ⟨i', hi', hzi⟩ := zeroP_out hz
      have hf := fillA_out h
      subst hs
      have hle' : ¬ len * i.size > 2 ^ 24 := by omega
      by_cases h0 : len * i.size = 0
      · have h1 : (Array.range (len * i.size)).map (fun k => (#[] : Array Value)[k % (#[] : Array Value).size]!) = ((List.range (len * i.size)).map fun i => z.cells[i % z.cells.size]!).toArray := by
          rw [h0]; simp
        unfold Instr.buildSlice
        rw [Sem.run_bind, run_und hu]
        simp only [Result.andThen_ok]
        rw [Sem.run_bind, run_size hi]
        simp only [Result.andThen_ok]
        rw [if_neg hle', if_pos h0]
        simp only [pure_bind, h1, hf]
        simp [newRow]
      · have h1 : (Array.range (len * i.size)).map (fun k => z.cells[k % z.cells.size]!) = ((List.range (len * i.size)).map fun i => z.cells[i % z.cells.size]!).toArray := by
          rw [← List.map_toArray]; simp
        have hzv : (zeroValue e).run P w = .ok z w := by simp [zeroValue, run_info hi', hzi]
        unfold Instr.buildSlice
        rw [Sem.run_bind, run_und hu]
        simp only [Result.andThen_ok]
        rw [Sem.run_bind, run_size hi]
        simp only [Result.andThen_ok]
        rw [if_neg hle', if_neg h0]
        simp only [pure_bind]
        rw [Sem.run_bind, hzv]
        simp only [Result.andThen_ok, h1, hf]
        simp [newRow]
    · cases h
theorem run_allocV {t : TypeId} {z : Value} (h : zeroP P t = some z) (w : World) : (Instr.alloc t true (.tuple #[])).run P w = .ok (.pointer (some ⟨w.heap.size, 0, none⟩)) (w.alloc (.cells z.cells t)) := by
  obtain ⟨i, hi, hz⟩ := zeroP_out h
  simp [Instr.alloc, zeroValue, run_info hi, hz, newVar, newRow]
theorem run_boxV {t : TypeId} {v : Value} (w : World) : (Instr.box t v).run P w = .ok (.pointer (some ⟨w.heap.size, 0, none⟩)) (w.alloc (.cells v.cells t)) := by
  simp [Instr.box, newVar, newRow]
end
attribute [irreducible] lay zeroP offP idxP fldP bldP arrP kindP elemP
end Go.Al
