/- HouseNone: a nil house is down and has nothing; this text: part 1 of the proof, no condition. -/
import Derived.Test.YtaoepimoakcdaaaGreatAl0
import Derived.OrdersHeld
import Derived.Tactics
import Derived.Conc.Events
import Derived.Defers
namespace Go.Al
open Go
/-- What is asked of a call's end: a value and a world. -/
def retK (K : Value → World → Prop) : Ending → World → Prop
  | .returned v, w => K v w
  | .panicked _, _ => False
  | .outgrown, _ => False
/-- An operation that yields a value. -/
def vSem (s : Sem Value) : Sem Next := do pure (.value (← s))
/-- An operation that yields none. -/
def uSem (s : Sem Unit) : Sem Next := do s; pure .skip
def no : World → Prop := fun _ => False
/-- A value that is known without the world. -/
def pVal (o : Option Value) (K : Value → World → Prop) : World → Prop := match o with | some v => K v | none => no
/-- What a variable holds. -/
def pLd (P : Program) (t : TypeId) (x : Value) (K : Value → World → Prop) : World → Prop := fun w => match rd P t w x with | some v => K v w | none => False
/-- What a variable holds in all worlds of a class. -/
def pHld (P : Program) (S : World → Prop) (t : TypeId) (x : Value) (K : Value → World → Prop) : World → Prop := fun w => ∃ v, (∀ w', S w' → rd P t w' x = some v) ∧ K v w
/-- A variable is given a value. -/
def pSt (P : Program) (t : TypeId) (x v : Value) (K : World → Prop) : World → Prop := fun w => match wr P t w x v with | some w' => K w' | none => False
/-- A new variable that holds a value. -/
def pNew (t : TypeId) (v : Value) (K : Value → World → Prop) : World → Prop := fun w => K (.pointer (some ⟨w.heap.size, 0, none⟩)) (w.alloc (.cells v.cells t))
def pAlloc (P : Program) (t : TypeId) (K : Value → World → Prop) : World → Prop := match zeroP P t with | some z => pNew t z K | none => no
/-- A slice's literal. -/
def pRow (P : Program) (t : TypeId) (n : Nat) (parts : List (Nat × Value)) (K : Value → World → Prop) : World → Prop :=
  match elemP P t with
  | some (e, size) => match rowV P e size n parts with
    | some l => fun w => K (.slice (some ⟨w.heap.size, 0, none⟩) n n) (w.alloc (.cells l.toArray e))
    | none => no
  | none => no
def okThen {α : Type} (r : Result α) (K : α → World → Prop) : Prop :=
  match r with
  | .ok v w => K v w
  | .halt _ _ => False
/-- The operation runs, and what follows holds. -/
def pRun (P : Program) (s : Sem Value) (K : Value → World → Prop) : World → Prop := fun w => okThen (s.run P w) K
def pDo (P : Program) (s : Sem Unit) (K : World → Prop) : World → Prop := fun w => okThen (s.run P w) fun _ => K
/-- The same, of an operation that may ask for room. -/
def pRoom (P : Program) (s : Sem Value) (K : Value → World → Prop) : World → Prop := fun w => okThen (s.run P w) K
/-- In all worlds of a class it yields one value, and leaves the world as it was. -/
def pHold (P : Program) (S : World → Prop) (s : Sem Value) (K : Value → World → Prop) : World → Prop := fun w =>
  ∃ v, (∀ w', S w' → s.run P w' = .ok v w') ∧ K v w
def hasBody (P : Program) (f : FuncId) : Bool :=
  match P.funcs[f]? with
  | some fn => match fn.body with | some _ => !(fn.name == "runtime.NumGoroutine") | none => false
  | none => false
/-- A call of a function with a body. -/
def pCall (P : Program) (f : FuncId) (args : List Value) (K : Value → World → Prop) : World → Prop := fun w =>
  hasBody P f = true ∧ Calls P f args.toArray w (retK K)
/-- A call of a function value. -/
def pCallV (P : Program) (fv : Value) (args : List Value) (K : Value → World → Prop) : World → Prop := fun w =>
  match fv with
  | .func (.func f) first captured => hasBody P f = true ∧ Calls P f (first ++ args.toArray ++ captured) w (retK K)
  | _ => False
/-- A call of a function without a body. -/
def pExt (P : Program) (f : FuncId) (args : List Value) (K : Value → World → Prop) : World → Prop := fun w =>
  ∃ v w', (callFunc f args.toArray).run P w = .ok (.value v) w' ∧ K v w'
/-- A test: a bool. -/
def pIf (v : Value) (A B : World → Prop) : World → Prop := fun w =>
  match v with
  | .bool true => A w
  | .bool false => B w
  | _ => False
/-- A guard: is it this bool (else the operation is left out)? -/
def pGuard (v : Value) (want : Bool) (A B : World → Prop) : World → Prop := fun w =>
  match v with
  | .bool b => match b == want with | true => A w | false => B w
  | _ => False
def pPick (c a b : Value) (K : Value → World → Prop) : World → Prop := fun w =>
  match c with
  | .bool true => K a w
  | .bool false => K b w
  | _ => False
/-- It must not be nil. -/
def pNil (v : Value) (K : Value → World → Prop) : World → Prop := fun w =>
  match v with
  | .pointer (some _) => K v w
  | .func (.func _) _ _ => K v w
  | _ => False
abbrev VK := List Value → World → Prop
/-- A loop: what holds at each round's head of so many variables, and a measure. -/
def pLoopL (n : Nat) (body : VK → List Value → World → Prop) (vs0 : List Value) : World → Prop := fun w =>
  ∃ (I : VK) (μ : List Value → World → Nat), I vs0 w ∧
    ∀ vs w, vs.length = n → I vs w → body (fun vs' w' => I vs' w' ∧ μ vs' w' < μ vs w) vs w
/-- Ways meet again. -/
def pJoinL (n : Nat) (A : VK → World → Prop) (rest : VK) : World → Prop := fun w =>
  ∃ J : VK, (∀ vs w, vs.length = n → J vs w → rest vs w) ∧ A J w
def pLoop0 (body : (World → Prop) → World → Prop) : World → Prop :=
  pLoopL 0 (fun ag vs => match vs with | [] => body (ag []) | _ => fun _ => False) []
def pLoop1 (body : (Value → World → Prop) → Value → World → Prop) (x : Value) : World → Prop :=
  pLoopL 1 (fun ag vs => match vs with | [a] => body (fun a => ag [a]) a | _ => fun _ => False) [x]
def pLoop2 (body : (Value → Value → World → Prop) → Value → Value → World → Prop) (x y : Value) : World → Prop :=
  pLoopL 2 (fun ag vs => match vs with | [a, b] => body (fun a b => ag [a, b]) a b | _ => fun _ => False) [x, y]
def pLoop3 (body : (Value → Value → Value → World → Prop) → Value → Value → Value → World → Prop) (x y z : Value) : World → Prop :=
  pLoopL 3 (fun ag vs => match vs with | [a, b, c] => body (fun a b c => ag [a, b, c]) a b c | _ => fun _ => False) [x, y, z]
def pLoop4 (body : (Value → Value → Value → Value → World → Prop) → Value → Value → Value → Value → World → Prop) (x y z u : Value) : World → Prop :=
  pLoopL 4 (fun ag vs => match vs with | [a, b, c, d] => body (fun a b c d => ag [a, b, c, d]) a b c d | _ => fun _ => False) [x, y, z, u]
def pLoop5 (body : (Value → Value → Value → Value → Value → World → Prop) → Value → Value → Value → Value → Value → World → Prop) (x y z u t : Value) : World → Prop :=
  pLoopL 5 (fun ag vs => match vs with | [a, b, c, d, e] => body (fun a b c d e => ag [a, b, c, d, e]) a b c d e | _ => fun _ => False) [x, y, z, u, t]
def pJoin0 (A : (World → Prop) → World → Prop) (rest : World → Prop) : World → Prop :=
  pJoinL 0 (fun J => A (J [])) (fun vs => match vs with | [] => rest | _ => fun _ => False)
def pJoin1 (A : (Value → World → Prop) → World → Prop) (rest : Value → World → Prop) : World → Prop :=
  pJoinL 1 (fun J => A (fun a => J [a])) (fun vs => match vs with | [a] => rest a | _ => fun _ => False)
def pJoin2 (A : (Value → Value → World → Prop) → World → Prop) (rest : Value → Value → World → Prop) : World → Prop :=
  pJoinL 2 (fun J => A (fun a b => J [a, b])) (fun vs => match vs with | [a, b] => rest a b | _ => fun _ => False)
def pJoin3 (A : (Value → Value → Value → World → Prop) → World → Prop) (rest : Value → Value → Value → World → Prop) : World → Prop :=
  pJoinL 3 (fun J => A (fun a b c => J [a, b, c])) (fun vs => match vs with | [a, b, c] => rest a b c | _ => fun _ => False)
def pJoin4 (A : (Value → Value → Value → Value → World → Prop) → World → Prop) (rest : Value → Value → Value → Value → World → Prop) : World → Prop :=
  pJoinL 4 (fun J => A (fun a b c d => J [a, b, c, d])) (fun vs => match vs with | [a, b, c, d] => rest a b c d | _ => fun _ => False)
def pJoin5 (A : (Value → Value → Value → Value → Value → World → Prop) → World → Prop) (rest : Value → Value → Value → Value → Value → World → Prop) : World → Prop :=
  pJoinL 5 (fun J => A (fun a b c d e => J [a, b, c, d, e])) (fun vs => match vs with | [a, b, c, d, e] => rest a b c d e | _ => fun _ => False)
/-- A statement whose order is open: some condition holds throughout. -/
def pDraw (B : (World → Prop) → World → Prop) : World → Prop := fun w =>
  ∃ S : World → Prop, S { w with drawn := w.drawn + 1 } ∧ B S { w with drawn := w.drawn + 1 }
def pAnd (A B : World → Prop) : World → Prop := fun w => A w ∧ B w
/-- Beside what follows the condition is to be shown anew. -/
def pKeep (keep : Bool) (S : World → Prop) (K : World → Prop) : World → Prop := match keep with
  | true => fun w => S w ∧ K w
  | false => K
def memb (t : Nat) : List Nat → Bool
  | [] => false
  | u :: l => match Nat.beq u t with | true => true | false => memb t l
abbrev Env := List (Nat × Value)
def Env.get : Env → Nat → Option Value
  | [], _ => none
  | (k, v) :: e, t => match Nat.beq k t with | true => some v | false => Env.get e t
/-- What the frame knows. -/
def Rep (e : Env) (a : Act) : Prop := ∀ t v, e.get t = some v → a.tmps[t]? = some v
def ev (e : Env) : Operand → Option Value
  | .tmp t => e.get t
  | .const v => some v
  | .global g => some (.pointer (some ⟨g, 0, none⟩))
  | .func f => some (.func (.func f) #[] #[])
theorem ev_sound {e : Env} {a : Act} (h : Rep e a) {x : Operand} {v : Value} (hx : ev e x = some v) : a.eval x = v := by
  cases x with
  | tmp t => have := h t v hx; simp [Act.eval, this]
  | const v => simpa [ev, Act.eval] using hx
  | global g => simpa [ev, Act.eval] using hx
  | func f => simpa [ev, Act.eval] using hx
def evs (e : Env) : List Operand → Option (List Value)
  | [] => some []
  | x :: xs => match ev e x with
    | some v => match evs e xs with | some vs => some (v :: vs) | none => none
    | none => none
theorem evs_sound {e : Env} {a : Act} (h : Rep e a) : ∀ {xs : List Operand} {vs : List Value}, evs e xs = some vs → xs.map a.eval = vs
  | [], vs, hx => by simp [evs] at hx; simp [hx]
  | x :: xs, vs, hx => by
    unfold evs at hx
    split at hx
    · rename_i v hv
      split at hx
      · rename_i vs' hvs
        cases hx
        simp [ev_sound h hv, evs_sound h hvs]
      · cases hx
    · cases hx
def evp (e : Env) : List (Nat × Operand) → Option (List (Nat × Value))
  | [] => some []
  | (i, x) :: xs => match ev e x with
    | some v => match evp e xs with | some vs => some ((i, v) :: vs) | none => none
    | none => none
theorem evp_sound {e : Env} {a : Act} (h : Rep e a) : ∀ {xs : List (Nat × Operand)} {vs : List (Nat × Value)}, evp e xs = some vs → xs.map (fun (i, x) => (i, a.eval x)) = vs
  | [], vs, hx => by simp [evp] at hx; simp [hx]
  | (i, x) :: xs, vs, hx => by
    unfold evp at hx
    split at hx
    · rename_i v hv
      split at hx
      · rename_i vs' hvs
        cases hx
        simp [ev_sound h hv, evp_sound h hvs]
      · cases hx
    · cases hx
def evo (e : Env) : Option Operand → Option (Option Value)
  | none => some none
  | some x => match ev e x with | some v => some (some v) | none => none
theorem evo_sound {e : Env} {a : Act} (h : Rep e a) {x : Option Operand} {v : Option Value} (hx : evo e x = some v) : x.map a.eval = v := by
  cases x with
  | none => simpa [evo] using hx
  | some x =>
    cases hu : ev e x with
    | none => simp [evo, hu] at hx
    | some u => simp [evo, hu] at hx; subst hx; simp [ev_sound h hu]
def isK : Operand → Bool
  | .const _ => true
  | _ => false
/-- What '==' asks ahead (k: is one side a literal?). -/
def eqG (op : BinOp) (t : TypeId) (k : Bool) (a b : Value) : Sem Unit :=
  eqGuard op t (if k then .const undef else .tmp 0) (.tmp 0) a b
/-- 'x op y' (k: is one side a literal?). -/
def binS (op : BinOp) (t : TypeId) (k : Bool) (a b : Value) : Sem Value := do
  eqG op t k a b
  binOp op t a b
theorem binS_eq (op : BinOp) (t : TypeId) (x y : Operand) (a b : Value) :
    (do eqGuard op t x y a b; binOp op t a b) = binS op t (isK x || isK y) a b := by
  unfold binS eqG eqGuard
  congr 1
  cases x <;> cases y <;> simp [isK]
def builtinS (b : Builtin) (argTypes : Array TypeId) (type : TypeId) (args : List Value) : Option (Sem Value) :=
  match b with
  | .cap => some (Builtin.cap_ argTypes type args.toArray)
  | .clear => some (Builtin.clear_ argTypes type args.toArray)
  | .copy => some (Builtin.copy_ argTypes type args.toArray)
  | .delete => some (Builtin.delete_ argTypes type args.toArray)
  | .len => some (Builtin.len_ argTypes type args.toArray)
  | .max => some (Builtin.max_ argTypes type args.toArray)
  | .min => some (Builtin.min_ argTypes type args.toArray)
  | _ => none
/-- Operations that look at their operands alone (ag: types of which they are run instead). -/
def pvE (P : Program) (ag : List Nat) (e : Env) (op : Op) : Option (Option Value) :=
  match op with
  | .fieldAddr s x f => match ev e x with | some x => some (fieldV P s x f) | none => none
  | .indexAddr t x i => match ev e x with
    | some x => match ev e i with | some i => some (indexV P t x i) | none => none
    | none => none
  | .binOp op t x y _ => match memb t ag with
    | true => none
    | false => match ev e x with
      | some a => match ev e y with | some b => some (binV P op t a b) | none => none
      | none => none
  | .unOp op _ x => match ev e x with | some x => some (unV op x) | none => none
  | .extract x i => match ev e x with | some x => some (extractV x i) | none => none
  | .build t ps => match evp e ps.toList with | some ps => some (buildV P t ps) | none => none
  | .field s x f => match ev e x with | some x => some (fieldOfV P s x f) | none => none
  | .slice t x lo hi mx => match memb t ag with
    | true => none
    | false => match ev e x with
      | some x => match evo e lo with
        | some lo => match evo e hi with
          | some hi => match evo e mx with | some mx => some (sliceV P t x lo hi mx) | none => none
          | none => none
        | none => none
      | none => none
  | .index t x i => match memb t ag with
    | true => none
    | false => match ev e x with
      | some x => match ev e i with | some i => some (charV P t x i) | none => none
      | none => none
  | .convert s d x => match P.underlying d with
    | some (.int _) => match ev e x with | some x => some (convV P s d x) | none => none
    | _ => none
  | .call { callee := .builtin b, args, argTypes } => match b with
    | .len => match argTypes[0]? with
      | some t => match memb t ag with
        | true => none
        | false => match evs e args.toList with | some vs => some (lenBV P argTypes vs) | none => none
      | none => none
    | .min => match evs e args.toList with | some vs => some (minV vs) | none => none
    | .max => match evs e args.toList with | some vs => some (maxV vs) | none => none
    | _ => none
  | _ => none
/-- Operations that yield a value, but for calls. -/
def semE (e : Env) (op : Op) (type : TypeId) : Option (Sem Value) :=
  match op with
  | .alloc elem => some (Instr.alloc elem true (.tuple #[]))
  | .box elem x => match ev e x with | some x => some (Instr.box elem x) | none => none
  | .build t ps => match evp e ps.toList with | some ps => some (Instr.build t ps.toArray) | none => none
  | .buildSlice t n ps => match evp e ps.toList with | some ps => some (Instr.buildSlice t n ps.toArray) | none => none
  | .load t x => match ev e x with | some x => some (Instr.loadAt t x) | none => none
  | .binOp op t x y _ => match ev e x with
    | some a => match ev e y with | some b => some (binS op t (isK x || isK y) a b) | none => none
    | none => none
  | .unOp op _ x => match ev e x with | some x => some (Op.unary op x) | none => none
  | .convert s d x => match ev e x with | some x => some (convert s d x) | none => none
  | .makeInterface t x => match ev e x with | some x => some (Instr.makeInterface t x) | none => none
  | .makeMap t r => match evo e r with | some r => some (Instr.makeMap t r) | none => none
  | .makeSlice t l c => match ev e l with
    | some l => match ev e c with | some c => some (Instr.makeSlice t l c) | none => none
    | none => none
  | .slice t x lo hi mx => match ev e x with
    | some x => match evo e lo with
      | some lo => match evo e hi with
        | some hi => match evo e mx with | some mx => some (Instr.sliceAt t x lo hi mx) | none => none
        | none => none
      | none => none
    | none => none
  | .fieldAddr s x f => match ev e x with | some x => some (Instr.fieldAt s x f) | none => none
  | .field s x f => match ev e x with | some x => some (Instr.field s x f) | none => none
  | .indexAddr t x i => match ev e x with
    | some x => match ev e i with | some i => some (Instr.indexAt t x i) | none => none
    | none => none
  | .index t x i => match ev e x with
    | some x => match ev e i with | some i => some (Instr.index t x i) | none => none
    | none => none
  | .lookup t x i ok => match ev e x with
    | some x => match ev e i with | some i => some (Instr.lookup t x i ok) | none => none
    | none => none
  | .range t x => match ev e x with | some x => some (Instr.range t x) | none => none
  | .next it s => match ev e it with | some it => some (Instr.next it s type) | none => none
  | .entry it => match ev e it with | some it => some (Instr.entry it) | none => none
  | .extract x i => match ev e x with | some x => some (Instr.extract x i) | none => none
  | .call { callee := .builtin b, args, argTypes } => match evs e args.toList with
    | some vs => builtinS b argTypes type vs
    | none => none
  | _ => none
/-- Operations that yield nothing. -/
def doE (e : Env) (op : Op) : Option (Sem Unit) :=
  match op with
  | .store t a v => match ev e a with
    | some a => match ev e v with | some v => some (Instr.storeAt t a v) | none => none
    | none => none
  | .mapUpdate t m k x | .insert t m k x => match ev e m with
    | some m => match ev e k with
      | some k => match ev e x with | some x => some (Instr.mapUpdate t m k x) | none => none
      | none => none
    | none => none
  | _ => none
/-- append. -/
def roomE (e : Env) (op : Op) (type : TypeId) : Option (Sem Value) :=
  match op with
  | .call { callee := .builtin .append, args, argTypes } => match evs e args.toList with
    | some vs => some (Builtin.append_ argTypes type vs.toArray)
    | none => none
  | _ => none
/-- Operations whose value is known at once. -/
def valE (e : Env) (op : Op) : Option Value :=
  match op with
  | .move x | .assign x => ev e x
  | .makeFunc fn first captured => match evs e first.toList with
    | some f => match evs e captured.toList with | some c => some (.func fn f.toArray c.toArray) | none => none
    | none => none
  | _ => none
theorem semE_sound {e : Env} {a : Act} (h : Rep e a) {o : Oper} {s : Sem Value} (hs : semE e o.op o.type = some s) :
    execOp a.eval o = vSem s := by
  obtain ⟨dst, op, type, pos, after, guard⟩ := o
  cases op <;> simp only [semE] at hs <;> simp only [execOp, vSem]
  case build t ps =>
    split at hs <;> cases hs
    rename_i vs hv
    have := evp_sound h hv
    rw [← this]
    simp [← List.map_toArray]
  case buildSlice t n ps =>
    split at hs <;> cases hs
    rename_i vs hv
    have := evp_sound h hv
    rw [← this]
    simp [← List.map_toArray]
  case binOp op t x y ty =>
    split at hs
    · rename_i u hu
      split at hs <;> cases hs
      rename_i v hv
      rw [ev_sound h hu, ev_sound h hv, ← binS_eq]
    · cases hs
  case makeMap t r =>
    split at hs <;> cases hs
    rename_i v hv
    rw [evo_sound h hv]
  case slice t x lo hi mx =>
    split at hs
    · rename_i u hu
      split at hs
      · rename_i l hl
        split at hs
        · rename_i i hi
          split at hs <;> cases hs
          rename_i m hm
          rw [ev_sound h hu, evo_sound h hl, evo_sound h hi, evo_sound h hm]
        · cases hs
      · cases hs
    · cases hs
  case call c =>
    obtain ⟨callee, args, argTypes⟩ := c
    cases callee <;> simp only [reduceCtorEq] at hs
    rename_i b
    split at hs
    · rename_i vs hv
      have hm := evs_sound h hv
      have hm' : args.map a.eval = vs.toArray := by rw [← hm, ← List.map_toArray]
      simp only [resolve, hm', pure_bind, invoke]
      cases b <;> simp only [builtinS, reduceCtorEq] at hs <;> cases hs <;> rfl
    · cases hs
  all_goals (
    first
    | (cases hs; done)
    | (cases hs; rfl)
    | (split at hs <;> cases hs; rename_i u hu; rw [ev_sound h hu])
    | (split at hs
       · rename_i u hu
         split at hs <;> cases hs
         rename_i v hv
         rw [ev_sound h hu, ev_sound h hv]
       · cases hs))
theorem roomE_sound {e : Env} {a : Act} (h : Rep e a) {o : Oper} {s : Sem Value} (hs : roomE e o.op o.type = some s) :
    execOp a.eval o = vSem s := by
  obtain ⟨dst, op, type, pos, after, guard⟩ := o
  cases op with
  | call c =>
    obtain ⟨callee, args, argTypes⟩ := c
    cases callee with
    | builtin b =>
      cases b with
      | append =>
        simp only [roomE] at hs
        cases hv : evs e args.toList with
        | none => rw [hv] at hs; cases hs
        | some vs =>
          rw [hv] at hs
          have hm' : args.map a.eval = vs.toArray := by rw [← evs_sound h hv, ← List.map_toArray]
          cases hs
          simp only [execOp, vSem, resolve, hm', pure_bind, invoke]
          rfl
      | _ => simp [roomE] at hs
    | _ => simp [roomE] at hs
  | _ => simp [roomE] at hs
theorem pvE_sound {P : Program} {ag : List Nat} {e : Env} {a : Act} (h : Rep e a) {o : Oper} {v : Value} (hs : pvE P ag e o.op = some (some v)) (w : World) :
    (execOp a.eval o).run P w = .ok (.value v) w := by
  have fin : ∀ {s : Sem Value}, execOp a.eval o = vSem s → s.run P w = .ok v w → (execOp a.eval o).run P w = .ok (.value v) w := fun h1 h2 => by
    rw [h1]; simp [vSem, h2]
  obtain ⟨dst, op, type, pos, after, guard⟩ := o
  cases op with
  | fieldAddr s x f =>
    simp only [pvE] at hs
    split at hs <;> simp only [Option.some.injEq, reduceCtorEq] at hs
    rename_i u hu
    exact fin (s := Instr.fieldAt s u f) (by simp only [execOp, vSem, ev_sound h hu]) (run_fieldV hs w)
  | indexAddr t x i =>
    simp only [pvE] at hs
    split at hs
    · rename_i u hu
      split at hs <;> simp only [Option.some.injEq, reduceCtorEq] at hs
      rename_i n hn
      exact fin (s := Instr.indexAt t u n) (by simp only [execOp, vSem, ev_sound h hu, ev_sound h hn]) (run_indexV hs w)
    · cases hs
  | binOp op t x y ty =>
    simp only [pvE] at hs
    split at hs
    · cases hs
    · split at hs
      · rename_i u hu
        split at hs <;> simp only [Option.some.injEq, reduceCtorEq] at hs
        rename_i n hn
        refine fin (s := binS op t (isK x || isK y) u n) (by simp only [execOp, vSem, ev_sound h hu, ev_sound h hn, ← binS_eq]) ?_
        have hg : eqG op t (isK x || isK y) u n = pure () := by
          unfold eqG eqGuard
          unfold binV at hs
          split at hs <;> first | (cases hs; done) | (cases op <;> rfl)
        simp [binS, hg, run_binV hs w]
      · cases hs
  | unOp op t x =>
    simp only [pvE] at hs
    split at hs <;> simp only [Option.some.injEq, reduceCtorEq] at hs
    rename_i u hu
    exact fin (s := Op.unary op u) (by simp only [execOp, vSem, ev_sound h hu]) (run_unV hs w)
  | extract x i =>
    simp only [pvE] at hs
    split at hs <;> simp only [Option.some.injEq, reduceCtorEq] at hs
    rename_i u hu
    exact fin (s := Instr.extract u i) (by simp only [execOp, vSem, ev_sound h hu]) (run_extractV hs w)
  | build t ps =>
    simp only [pvE] at hs
    split at hs <;> simp only [Option.some.injEq, reduceCtorEq] at hs
    rename_i vs hv
    refine fin (s := Instr.build t vs.toArray) ?_ (run_buildV hs w)
    simp only [execOp, vSem]
    rw [← evp_sound h hv]
    simp [← List.map_toArray]
  | field s x f =>
    simp only [pvE] at hs
    split at hs <;> simp only [Option.some.injEq, reduceCtorEq] at hs
    rename_i u hu
    exact fin (s := Instr.field s u f) (by simp only [execOp, vSem, ev_sound h hu]) (run_fieldOfV hs w)
  | slice t x lo hi mx =>
    simp only [pvE] at hs
    split at hs
    · cases hs
    · split at hs
      · rename_i u hu
        split at hs
        · rename_i l hl
          split at hs
          · rename_i n hn
            split at hs <;> simp only [Option.some.injEq, reduceCtorEq] at hs
            rename_i m hm
            exact fin (s := Instr.sliceAt t u l n m) (by simp only [execOp, vSem, ev_sound h hu, evo_sound h hl, evo_sound h hn, evo_sound h hm]) (run_sliceV hs w)
          · cases hs
        · cases hs
      · cases hs
  | index t x i =>
    simp only [pvE] at hs
    split at hs
    · cases hs
    · split at hs
      · rename_i u hu
        split at hs <;> simp only [Option.some.injEq, reduceCtorEq] at hs
        rename_i n hn
        exact fin (s := Instr.index t u n) (by simp only [execOp, vSem, ev_sound h hu, ev_sound h hn]) (run_charV hs w)
      · cases hs
  | convert s d x =>
    simp only [pvE] at hs
    split at hs
    · split at hs <;> simp only [Option.some.injEq, reduceCtorEq] at hs
      rename_i u hu
      exact fin (s := convert s d u) (by simp only [execOp, vSem, ev_sound h hu]) (run_convV hs w)
    · cases hs
  | call c =>
    obtain ⟨callee, args, argTypes⟩ := c
    cases callee with
    | builtin b =>
      have hargs : ∀ vs, evs e args.toList = some vs → args.map a.eval = vs.toArray := fun vs hv => by
        rw [← evs_sound h hv, ← List.map_toArray]
      cases b with
      | len =>
        simp only [pvE] at hs
        split at hs
        · split at hs
          · cases hs
          · split at hs <;> simp only [Option.some.injEq, reduceCtorEq] at hs
            rename_i vs hv
            refine fin (s := Builtin.len_ argTypes type vs.toArray) ?_ (run_lenBV hs w)
            simp only [execOp, vSem, resolve, hargs vs hv, pure_bind, invoke]
            rfl
        · cases hs
      | min =>
        simp only [pvE] at hs
        split at hs <;> simp only [Option.some.injEq, reduceCtorEq] at hs
        rename_i vs hv
        refine fin (s := Builtin.min_ argTypes type vs.toArray) ?_ (run_minV hs w)
        simp only [execOp, vSem, resolve, hargs vs hv, pure_bind, invoke]
        rfl
      | max =>
        simp only [pvE] at hs
        split at hs <;> simp only [Option.some.injEq, reduceCtorEq] at hs
        rename_i vs hv
        refine fin (s := Builtin.max_ argTypes type vs.toArray) ?_ (run_maxV hs w)
        simp only [execOp, vSem, resolve, hargs vs hv, pure_bind, invoke]
        rfl
      | _ => simp [pvE] at hs
    | _ => simp [pvE] at hs
  | _ => simp [pvE] at hs
theorem doE_sound {e : Env} {a : Act} (h : Rep e a) {o : Oper} {s : Sem Unit} (hs : doE e o.op = some s) :
    execOp a.eval o = uSem s := by
  obtain ⟨dst, op, type, pos, after, guard⟩ := o
  cases op <;> simp only [doE, reduceCtorEq] at hs <;> simp only [execOp, uSem]
  case store =>
    split at hs
    · rename_i u hu
      split at hs <;> cases hs
      rename_i v hv
      rw [ev_sound h hu, ev_sound h hv]
    · cases hs
  all_goals (
    split at hs
    · rename_i u hu
      split at hs
      · rename_i v hv
        split at hs <;> cases hs
        rename_i x hx
        rw [ev_sound h hu, ev_sound h hv, ev_sound h hx]
      · cases hs
    · cases hs)
theorem valE_sound {e : Env} {a : Act} (h : Rep e a) {o : Oper} {v : Value} (hs : valE e o.op = some v) :
    execOp a.eval o = pure (.value v) := by
  obtain ⟨dst, op, type, pos, after, guard⟩ := o
  cases op <;> simp only [valE, reduceCtorEq] at hs <;> simp only [execOp]
  case move => rw [ev_sound h hs]
  case assign => rw [ev_sound h hs]
  case makeFunc fn first captured =>
    split at hs
    · rename_i u hu
      split at hs <;> cases hs
      rename_i c hc
      have h1 : first.map a.eval = u.toArray := by rw [← evs_sound h hu, ← List.map_toArray]
      have h2 : captured.map a.eval = c.toArray := by rw [← evs_sound h hc, ← List.map_toArray]
      simp only [Instr.makeFunc, h1, h2, pure_bind]
    · cases hs
def putE (nt : Nat) (e : Env) (dst : Option Tmp) (v : Value) (K : Env → World → Prop) : World → Prop :=
  match dst with
  | none => K e
  | some d => match Nat.blt d nt with | true => K ((d, v) :: e) | false => no
/-- The frame but for some temporaries is as it was. -/
def Kp (T : List Nat) (a a' : Act) : Prop :=
  a'.defers = a.defers ∧ a'.tmps.size = a.tmps.size ∧ ∀ t, t ∉ T → a'.tmps[t]? = a.tmps[t]?
theorem Kp.refl (T : List Nat) (a : Act) : Kp T a a := ⟨rfl, rfl, fun _ _ => rfl⟩
theorem Kp.trans {T U : List Nat} {a b c : Act} (h : Kp T a b) (h' : Kp U b c) : Kp (T ++ U) a c :=
  ⟨h'.1.trans h.1, h'.2.1.trans h.2.1, fun t ht => by
    rw [List.mem_append, not_or] at ht
    exact (h'.2.2 t ht.2).trans (h.2.2 t ht.1)⟩
theorem Kp.mono {T U : List Nat} {a b : Act} (h : Kp T a b) (hs : ∀ t, t ∈ T → t ∈ U) : Kp U a b :=
  ⟨h.1, h.2.1, fun t ht => h.2.2 t fun h' => ht (hs t h')⟩
def dstL (o : Oper) : List Nat := match o.dst with | some d => [d] | none => []
theorem putE_sound {nt : Nat} {e : Env} {a : Act} {o : Oper} {v : Value} {K : Env → World → Prop} {w : World} (hr : Rep e a) (hn : a.tmps.size = nt)
    (h : putE nt e o.dst v K w) : ∃ e', Rep e' (a.put o.dst v) ∧ Kp (dstL o) a (a.put o.dst v) ∧ K e' w := by
  unfold putE at h
  cases hd : o.dst with
  | none => simp only [hd] at h; exact ⟨e, by simpa [Act.put] using hr, Kp.refl _ _, h⟩
  | some d =>
    simp only [hd] at h
    cases hlt : Nat.blt d nt with
    | false => rw [hlt] at h; exact h.elim
    | true =>
      rw [hlt] at h
      have hlt' : d < nt := by simpa [Nat.blt_eq] using hlt
      refine ⟨_, ?_, ?_, h⟩
      · intro t u ht
        unfold Env.get at ht
        split at ht
        · rename_i hb
          have : d = t := by simpa using hb
          subst this
          cases ht
          simp [Act.put, hn, hlt']
        · rename_i hb
          have hne : d ≠ t := by intro hx; subst hx; simp at hb
          simp only [Act.put]
          rw [Array.getElem?_setIfInBounds_ne hne]
          exact hr t u ht
      · refine ⟨rfl, by simp [Act.put], fun t ht => ?_⟩
        have hne : d ≠ t := by intro hx; subst hx; simp [dstL, hd] at ht
        simp only [Act.put]
        rw [Array.getElem?_setIfInBounds_ne hne]
theorem putE_lt {nt : Nat} {e : Env} {a : Act} {o : Oper} {v : Value} {K : Env → World → Prop} {w : World} (hn : a.tmps.size = nt)
    (h : putE nt e o.dst v K w) : ∀ d, o.dst = some d → d < a.tmps.size := by
  intro d hd
  unfold putE at h
  rw [hd] at h
  simp only at h
  cases hlt : Nat.blt d nt with
  | false => rw [hlt] at h; exact h.elim
  | true => rw [hn]; simpa [Nat.blt_eq] using hlt
/-- What is known of guards: of operation j, asked for this bool, whether it yielded that. -/
abbrev Kn := List ((Nat × Bool) × Bool)
def beqB : Bool → Bool → Bool
  | true, true => true
  | false, false => true
  | _, _ => false
theorem beqB_eq {a b : Bool} (h : beqB a b = true) : a = b := by cases a <;> cases b <;> first | rfl | cases h
def Kn.find (j : Nat) (want : Bool) : Kn → Option Bool
  | [] => none
  | ((i, v), o) :: kn => match Nat.beq i j && beqB v want with | true => some o | false => Kn.find j want kn
def Kn.ok (ops : Array Oper) (kn : Kn) (a : Act) : Prop := ∀ p ∈ kn, (yielded ops a.tmps p.1.1 == some p.1.2) = p.2
/-- Whether operation j writes into this temporary. -/
def writes (ops : Array Oper) (j : Nat) (d : Option Tmp) : Bool :=
  match (ops[j]?).bind (·.dst), d with
  | some x, some y => Nat.beq x y
  | _, _ => false
def Kn.drop (ops : Array Oper) (d : Option Tmp) : Kn → Kn
  | [] => []
  | p :: kn => match writes ops p.1.1 d with | true => Kn.drop ops d kn | false => p :: Kn.drop ops d kn
theorem Kn.find_ok {ops : Array Oper} {a : Act} {j : Nat} {want o : Bool} : ∀ {kn : Kn}, Kn.ok ops kn a → kn.find j want = some o → (yielded ops a.tmps j == some want) = o
  | [], _, h => by cases h
  | ((i, v), x) :: kn, hk, h => by
    unfold Kn.find at h
    cases hb : (Nat.beq i j && beqB v want) with
    | true =>
      rw [hb] at h
      cases h
      rw [Bool.and_eq_true] at hb
      have h1 := Nat.eq_of_beq_eq_true hb.1
      have h2 := beqB_eq hb.2
      subst h1; subst h2
      exact hk _ List.mem_cons_self
    | false =>
      rw [hb] at h
      exact Kn.find_ok (fun p hp => hk p (List.mem_cons_of_mem _ hp)) h
theorem yielded_put {ops : Array Oper} {a : Act} {j : Nat} {d : Option Tmp} {v : Value} (h : writes ops j d = false) :
    yielded ops (a.put d v).tmps j = yielded ops a.tmps j := by
  unfold yielded
  unfold writes at h
  cases d with
  | none => rfl
  | some y =>
    cases hx : (ops[j]?).bind (·.dst) with
    | none => rfl
    | some x =>
      rw [hx] at h
      have hne : y ≠ x := fun h' => by subst h'; simp at h
      simp [Act.put, Array.getElem?_setIfInBounds_ne hne]
theorem Kn.drop_ok {ops : Array Oper} {a : Act} {d : Option Tmp} {v : Value} : ∀ {kn : Kn}, Kn.ok ops kn a → Kn.ok ops (kn.drop ops d) (a.put d v)
  | [], _ => fun p hp => by cases hp
  | q :: kn, hk => fun p hp => by
    unfold Kn.drop at hp
    have hk' : Kn.ok ops kn a := fun p hp => hk p (List.mem_cons_of_mem _ hp)
    cases hw : writes ops q.1.1 d with
    | true => rw [hw] at hp; exact Kn.drop_ok hk' p hp
    | false =>
      rw [hw] at hp
      rcases List.mem_cons.1 hp with rfl | hp
      · rw [yielded_put hw]; exact hk _ List.mem_cons_self
      · exact Kn.drop_ok hk' p hp
/-- An operation that is left out yields no bool. -/
def Kn.skip (ops : Array Oper) (i : Nat) (d : Option Tmp) (kn : Kn) : Kn :=
  match d with
  | none => kn
  | some d => ((i, true), false) :: ((i, false), false) :: kn.drop ops (some d)
theorem Kn.skip_ok {ops : Array Oper} {a : Act} {i : Nat} {o : Oper} {kn : Kn} (hi : ops[i]? = some o) (hk : Kn.ok ops kn a) : Kn.ok ops (kn.skip ops i o.dst) (a.put o.dst undef) := by
  unfold Kn.skip
  cases hd : o.dst with
  | none => simpa [Act.put] using hk
  | some d =>
    have hy : yielded ops (a.put (some d) undef).tmps i = none := by
      unfold yielded
      simp only [hi, Option.bind_some, hd, Act.put]
      rw [Array.getElem?_setIfInBounds]
      by_cases hlt : d < a.tmps.size
      · simp [hlt, undef]
      · simp only [if_true, hlt, if_false]
    intro p hp
    rcases List.mem_cons.1 hp with rfl | hp
    · simp [hy]
    · rcases List.mem_cons.1 hp with rfl | hp
      · simp [hy]
      · exact Kn.drop_ok hk p hp
def gdE (ops : Array Oper) (kn : Kn) (e : Env) (o : Oper) (A B : Kn → World → Prop) : World → Prop :=
  match o.guard with
  | none => A kn
  | some (j, want) => match kn.find j want with
    | some true => A kn
    | some false => B kn
    | none => match (ops[j]?).bind (·.dst) with
      | some d => match e.get d with
        | some v => pGuard v want (A (((j, want), true) :: ((j, !want), false) :: kn)) (B (((j, want), false) :: ((j, !want), true) :: kn))
        | none => no
      | none => no
theorem gdE_sound {ops : Array Oper} {kn : Kn} {e : Env} {a : Act} {o : Oper} {A B : Kn → World → Prop} {w : World} (hr : Rep e a) (hk : Kn.ok ops kn a) (h : gdE ops kn e o A B w) :
    (Region.wanted o (yielded ops a.tmps) = true ∧ ∃ kn', Kn.ok ops kn' a ∧ A kn' w) ∨ (Region.wanted o (yielded ops a.tmps) = false ∧ ∃ kn', Kn.ok ops kn' a ∧ B kn' w) := by
  unfold gdE at h
  unfold Region.wanted
  cases hg : o.guard with
  | none => simp only [hg] at h; exact .inl ⟨rfl, kn, hk, h⟩
  | some jw =>
    obtain ⟨j, want⟩ := jw
    simp only [hg] at h
    cases hf : kn.find j want with
    | some b =>
      have := Kn.find_ok hk hf
      simp only [hf] at h
      cases b with
      | true => exact .inl ⟨this, kn, hk, h⟩
      | false => exact .inr ⟨this, kn, hk, h⟩
    | none =>
    simp only [hf] at h
    cases hd : (ops[j]?).bind (·.dst) with
    | none => simp only [hd] at h; exact h.elim
    | some d =>
      simp only [hd] at h
      cases hv : e.get d with
      | none => simp only [hv] at h; exact h.elim
      | some v =>
        simp only [hv] at h
        have ht := hr d v hv
        have hy : yielded ops a.tmps j = (match some v with | some (.bool b) => some b | _ => none) := by
          unfold yielded
          rw [hd]
          simp only [Option.bind_some, ht]
          rfl
        have knew : ∀ b c, (yielded ops a.tmps j == some want) = b → (yielded ops a.tmps j == some (!want)) = c → Kn.ok ops (((j, want), b) :: ((j, !want), c) :: kn) a := fun b c hb hc p hp => by
          rcases List.mem_cons.1 hp with rfl | hp
          · exact hb
          · rcases List.mem_cons.1 hp with rfl | hp
            · exact hc
            · exact hk p hp
        unfold pGuard at h
        cases v with
        | bool b =>
          simp only at h hy
          cases hb : (b == want) with
          | true =>
            rw [hb] at h
            have h0 := eq_of_beq hb
            subst h0
            have h1 : (yielded ops a.tmps j == some b) = true := by rw [hy]; simp
            have h2 : (yielded ops a.tmps j == some (!b)) = false := by rw [hy]; cases b <;> rfl
            exact .inl ⟨h1, _, knew _ _ h1 h2, h⟩
          | false =>
            rw [hb] at h
            have h1 : (yielded ops a.tmps j == some want) = false := by rw [hy]; simpa using hb
            have h2 : (yielded ops a.tmps j == some (!want)) = true := by rw [hy]; cases b <;> cases want <;> first | rfl | cases hb
            exact .inr ⟨h1, _, knew _ _ h1 h2, h⟩
        | _ => exact h.elim
/-- A bool that a temporary is known to hold. -/
def Kn.ofTmp (ops : Array Oper) (c : Tmp) : Kn → Option Bool
  | [] => none
  | ((j, v), out) :: kn => match writes ops j (some c) && out with | true => some v | false => Kn.ofTmp ops c kn
theorem writes_dst {ops : Array Oper} {j c : Nat} (h : writes ops j (some c) = true) : (ops[j]?).bind (·.dst) = some c := by
  unfold writes at h
  cases hx : (ops[j]?).bind (·.dst) with
  | none => rw [hx] at h; cases h
  | some x => rw [hx] at h; rw [Nat.eq_of_beq_eq_true h]
theorem Kn.ofTmp_ok {ops : Array Oper} {a : Act} {c : Tmp} {b : Bool} : ∀ {kn : Kn}, Kn.ok ops kn a → kn.ofTmp ops c = some b → a.eval (.tmp c) = .bool b
  | [], _, h => by cases h
  | ((j, v), out) :: kn, hk, h => by
    unfold Kn.ofTmp at h
    cases hw : (writes ops j (some c) && out) with
    | false => rw [hw] at h; exact Kn.ofTmp_ok (fun p hp => hk p (List.mem_cons_of_mem _ hp)) h
    | true =>
      rw [hw] at h
      cases h
      rw [Bool.and_eq_true] at hw
      have h1 := hk _ (List.mem_cons_self (a := ((j, b), out)))
      rw [hw.2] at h1
      have h2 : yielded ops a.tmps j = some b := eq_of_beq h1
      unfold yielded at h2
      rw [writes_dst hw.1] at h2
      simp only [Option.bind_some] at h2
      cases ht : a.tmps[c]? with
      | none => rw [ht] at h2; cases h2
      | some u =>
        rw [ht] at h2
        cases u <;> simp at h2
        subst h2
        simp [Act.eval, ht]
/-- Which operand a pick is known to take. -/
def pickE (ops : Array Oper) (kn : Kn) (o : Oper) : Option Operand :=
  match o.op with
  | .pick (.tmp c) a b => match kn.ofTmp ops c with
    | some true => some a
    | some false => some b
    | none => none
  | .move x | .assign x => some x
  | _ => none
theorem pickE_run {P : Program} {ops : Array Oper} {kn : Kn} {o : Oper} {e : Env} {a : Act} {x : Operand} {v : Value} (hr : Rep e a) (hk : Kn.ok ops kn a)
    (h : pickE ops kn o = some x) (hv : ev e x = some v) (w : World) : (execOp a.eval o).run P w = .ok (.value v) w := by
  obtain ⟨dst, op, type, pos, after, guard⟩ := o
  unfold pickE at h
  cases op with
  | pick c y z =>
    cases c with
    | tmp c =>
      simp only at h
      cases ht : kn.ofTmp ops c with
      | none => rw [ht] at h; cases h
      | some b =>
        rw [ht] at h
        have h1 := Kn.ofTmp_ok hk ht
        cases b <;> cases h <;> simp [execOp, h1, asBool, ev_sound hr hv]
    | _ => cases h
  | move y => cases h; simp [execOp, ev_sound hr hv]
  | assign y => cases h; simp [execOp, ev_sound hr hv]
  | _ => cases h
/-- What is known of a pick's operand is known of it. -/
def Kn.more (ops : Array Oper) (i t : Nat) : Kn → Kn → Kn
  | [], kn' => kn'
  | ((j, v), out) :: kn, kn' => match writes ops j (some t) with | true => ((i, v), out) :: Kn.more ops i t kn kn' | false => Kn.more ops i t kn kn'
def Kn.alias (ops : Array Oper) (i : Nat) (d : Option Tmp) (x : Operand) (kn : Kn) : Kn :=
  match d with
  | none => kn.drop ops none
  | some d => match x with
    | .const (.bool b) => ((i, b), true) :: ((i, !b), false) :: kn.drop ops (some d)
    | .tmp t => Kn.more ops i t kn (kn.drop ops (some d))
    | _ => kn.drop ops (some d)
theorem yielded_self {ops : Array Oper} {a : Act} {i d : Nat} {o : Oper} {v : Value} (hi : ops[i]? = some o) (hd : o.dst = some d) (hlt : d < a.tmps.size) :
    yielded ops (a.put (some d) v).tmps i = match some v with | some (.bool b) => some b | _ => none := by
  unfold yielded
  simp only [hi, Option.bind_some, hd, Act.put]
  rw [Array.getElem?_setIfInBounds, if_pos rfl, if_pos hlt]
  rfl
theorem Kn.more_ok {ops : Array Oper} {a a' : Act} {i t : Nat} {kn' : Kn} (hk' : Kn.ok ops kn' a') : ∀ {kn : Kn}, Kn.ok ops kn a →
    (∀ j, writes ops j (some t) = true → yielded ops a'.tmps i = yielded ops a.tmps j) → Kn.ok ops (Kn.more ops i t kn kn') a'
  | [], _, _ => hk'
  | ((j, v), out) :: kn, hk, hy => by
    have ih := Kn.more_ok hk' (fun p hp => hk p (List.mem_cons_of_mem _ hp)) hy
    unfold Kn.more
    cases hw : writes ops j (some t) with
    | false => exact ih
    | true =>
      intro p hp
      rcases List.mem_cons.1 hp with rfl | hp
      · rw [hy j hw]; exact hk _ List.mem_cons_self
      · exact ih p hp
theorem Kn.alias_ok {ops : Array Oper} {kn : Kn} {i : Nat} {o : Oper} {e : Env} {a : Act} {x : Operand} {v : Value} (hr : Rep e a) (hk : Kn.ok ops kn a)
    (hi : ops[i]? = some o) (hlt : ∀ d, o.dst = some d → d < a.tmps.size) (hv : ev e x = some v) : Kn.ok ops (kn.alias ops i o.dst x) (a.put o.dst v) := by
  unfold Kn.alias
  cases hd : o.dst with
  | none => exact Kn.drop_ok hk
  | some d =>
    have hself := yielded_self (v := v) hi hd (hlt d hd)
    cases x with
    | tmp t =>
      refine Kn.more_ok (Kn.drop_ok hk) hk fun j hw => ?_
      rw [hself]
      have ht : a.tmps[t]? = some v := hr t v hv
      unfold yielded
      rw [writes_dst hw]
      simp only [Option.bind_some, ht]
      rfl
    | const c =>
      cases c with
      | bool b =>
        simp only [ev, Option.some.injEq] at hv
        subst hv
        intro p hp
        rcases List.mem_cons.1 hp with rfl | hp
        · rw [hself]; simp
        · rcases List.mem_cons.1 hp with rfl | hp
          · rw [hself]; cases b <;> rfl
          · exact Kn.drop_ok hk p hp
      | _ => exact Kn.drop_ok hk
    | _ => exact Kn.drop_ok hk
def dynE (P : Program) (e : Env) (f : Operand) (args : List Operand) (K : Value → World → Prop) : World → Prop :=
  match ev e f with
  | some fv => match evs e args with
    | some vs => pCallV P fv vs K
    | none => no
  | none => no
/-- Operations but for picks, nil checks and calls of functions. -/
def restE (P : Program) (ag : List Nat) (nt : Nat) (e : Env) (o : Oper) (K : Env → World → Prop) : World → Prop :=
  match valE e o.op with
  | some v => putE nt e o.dst v K
  | none => match pvE P ag e o.op with
    | some ov => pVal ov fun v => putE nt e o.dst v K
    | none => match o.op with
      | .load t x => match ev e x with | some x => pLd P t x fun v => putE nt e o.dst v K | none => no
      | .store t x y => match ev e x with
        | some x => match ev e y with | some y => pSt P t x y (putE nt e o.dst undef K) | none => no
        | none => no
      | .alloc t => pAlloc P t fun v => putE nt e o.dst v K
      | .box t x => match ev e x with | some x => pNew t x fun v => putE nt e o.dst v K | none => no
      | .buildSlice t n ps => match evp e ps.toList with | some ps => pRow P t n ps fun v => putE nt e o.dst v K | none => no
      | op => match semE e op o.type with
        | some s => pRun P s fun v => putE nt e o.dst v K
        | none => match doE e op with
          | some s => pDo P s (putE nt e o.dst undef K)
          | none => match roomE e op o.type with
            | some s => pRoom P s fun v => putE nt e o.dst v K
            | none => no
def exE (P : Program) (ag : List Nat) (nt : Nat) (e : Env) (o : Oper) (K : Env → World → Prop) : World → Prop :=
  match o.op with
  | .pick c a b => match ev e c with
    | some c => match ev e a with
      | some a => match ev e b with
        | some b => pPick c a b fun v => putE nt e o.dst v K
        | none => no
      | none => no
    | none => no
  | .nilCheck x => match ev e x with
    | some x => pNil x fun v => putE nt e o.dst v K
    | none => no
  | .call { callee := .value (.func f), args, .. } => match evs e args.toList with
    | some vs => match hasBody P f with
      | true => pCall P f vs fun v => putE nt e o.dst v K
      | false => pExt P f vs fun v => putE nt e o.dst v K
    | none => no
  | .call { callee := .value f, args, .. } => dynE P e f args.toList fun v => putE nt e o.dst v K
  | _ => restE P ag nt e o K
section
variable {P : Program}
theorem callFunc_body {f : FuncId} {args : Array Value} (h : hasBody P f = true) (w : World) : (callFunc f args).run P w = .ok (.enter f args) w := by
  unfold hasBody at h
  unfold callFunc
  cases hf : P.funcs[f]? with
  | none => simp [hf] at h
  | some fn =>
    simp only [hf] at h
    cases hb : fn.body with
    | none => simp [hb] at h
    | some c =>
      simp only [hb] at h
      have hne : (fn.name == "runtime.NumGoroutine") = false := by simpa only [Bool.not_eq_true'] using h
      simp only [Sem.run_bind, run_program, Result.andThen_ok, hf, hne, hb, Option.isNone_some, Bool.false_eq_true, if_false, Sem.run_pure]
/-- What is asked of the operation's end, and what is let go. -/
def After (P : Program) (o : Oper) (a : Act) (w : World) (N : Act → World → Prop) (Q : Exit → Act → World → Prop) : Prop :=
  o.wp P a w N Q ∨ (o.asks P a w ∧ LetsOut Q)
theorem After.of_run {o : Oper} {a : Act} {w w' : World} {v : Value} {N : Act → World → Prop} {Q : Exit → Act → World → Prop}
    (h : (execOp a.eval o).run P w = .ok (.value v) w') (hn : N (a.put o.dst v) w') : After P o a w N Q := by
  left; unfold Oper.wp; rw [h]; exact hn
theorem exE_sound {ag : List Nat} {nt : Nat} {e : Env} {a : Act} {o : Oper} {K : Env → World → Prop} {w : World} {N : Act → World → Prop} {Q : Exit → Act → World → Prop}
    (hr : Rep e a) (hn : a.tmps.size = nt) (hout : True)
    (hK : ∀ e' v w', Rep e' (a.put o.dst v) → Kp (dstL o) a (a.put o.dst v) → K e' w' → N (a.put o.dst v) w') (h : exE P ag nt e o K w) : After P o a w N Q := by
  have fin : ∀ v w', putE nt e o.dst v K w' → N (a.put o.dst v) w' := fun v w' hp =>
    let ⟨e', h1, h2, h3⟩ := putE_sound hr hn hp
    hK e' v w' h1 h2 h3
  have run1 : ∀ {s : Sem Value} {v : Value} {w' : World}, execOp a.eval o = vSem s → s.run P w = .ok v w' → putE nt e o.dst v K w' → After P o a w N Q := fun {s v w'} he hrun hp =>
    After.of_run (v := v) (w' := w') (by rw [he]; simp [vSem, hrun]) (fin _ _ hp)
  have hrest : restE P ag nt e o K w → After P o a w N Q := by
    intro h
    unfold restE at h
    cases hv : valE e o.op with
    | some v =>
      rw [hv] at h
      refine After.of_run (v := v) (w' := w) ?_ (fin _ _ h)
      rw [valE_sound hr hv]; rfl
    | none =>
    rw [hv] at h
    simp only at h
    cases hpv : pvE P ag e o.op with
    | some ov =>
      rw [hpv] at h
      simp only at h
      cases ov with
      | none => exact h.elim
      | some v => exact After.of_run (v := v) (w' := w) (pvE_sound hr hpv w) (fin _ _ h)
    | none =>
    rw [hpv] at h
    simp only at h
    have hlast : (match semE e o.op o.type with
        | some s => pRun P s fun v => putE nt e o.dst v K
        | none => match doE e o.op with
          | some s => pDo P s (putE nt e o.dst undef K)
          | none => match roomE e o.op o.type with
            | some s => pRoom P s fun v => putE nt e o.dst v K
            | none => no) w → After P o a w N Q := by
      intro h
      cases hs : semE e o.op o.type with
      | some s =>
        simp only [hs] at h
        have he := semE_sound hr hs
        unfold pRun at h
        cases hrun : s.run P w with
        | halt x w' => rw [hrun] at h; exact h.elim
        | ok v w' =>
          rw [hrun] at h
          exact run1 he hrun h
      | none =>
        simp only [hs] at h
        cases hd : doE e o.op with
        | some s =>
          simp only [hd] at h
          have he := doE_sound hr hd
          unfold pDo at h
          cases hrun : s.run P w with
          | halt x w' => rw [hrun] at h; exact h.elim
          | ok v w' =>
            rw [hrun] at h
            left; unfold Oper.wp; rw [he]; simp only [uSem, Sem.run_bind, hrun, Result.andThen_ok, Sem.run_pure]
            exact fin undef w' h
        | none =>
          simp only [hd] at h
          cases hm : roomE e o.op o.type with
          | none => simp only [hm] at h; exact h.elim
          | some s =>
            simp only [hm] at h
            have he := roomE_sound hr hm
            unfold pRoom at h
            cases hrun : s.run P w with
            | halt x w' => rw [hrun] at h; exact h.elim
            | ok v w' =>
              rw [hrun] at h
              exact run1 he hrun h
    obtain ⟨dst, op, type, pos, after, guard⟩ := o
    cases op with
    | load t x =>
      simp only at h
      cases hx : ev e x with
      | none => rw [hx] at h; exact h.elim
      | some xv =>
        rw [hx] at h
        unfold pLd at h
        cases hrd : rd P t w xv with
        | none => simp only [hrd] at h
        | some v =>
          simp only [hrd] at h
          exact run1 (semE_sound hr (by simp only [semE, hx])) (run_rd hrd) h
    | store t x y =>
      simp only at h
      cases hx : ev e x with
      | none => rw [hx] at h; exact h.elim
      | some xv =>
        rw [hx] at h
        simp only at h
        cases hy : ev e y with
        | none => rw [hy] at h; exact h.elim
        | some yv =>
          rw [hy] at h
          unfold pSt at h
          cases hwr : wr P t w xv yv with
          | none => simp only [hwr] at h
          | some w' =>
            simp only [hwr] at h
            have he := doE_sound hr (o := ⟨dst, .store t x y, type, pos, after, guard⟩) (s := Instr.storeAt t xv yv) (by simp only [doE, hx, hy])
            left; unfold Oper.wp; rw [he]; simp only [uSem, Sem.run_bind, run_wr hwr, Result.andThen_ok, Sem.run_pure]
            exact fin undef w' h
    | alloc t =>
      simp only at h
      unfold pAlloc at h
      cases hz : zeroP P t with
      | none => rw [hz] at h; exact h.elim
      | some z =>
        rw [hz] at h
        exact run1 (semE_sound hr (by simp only [semE])) (run_allocV hz w) h
    | box t x =>
      simp only at h
      cases hx : ev e x with
      | none => rw [hx] at h; exact h.elim
      | some xv =>
        rw [hx] at h
        exact run1 (semE_sound hr (by simp only [semE, hx])) (run_boxV w) h
    | buildSlice t n ps =>
      simp only at h
      cases hx : evp e ps.toList with
      | none => rw [hx] at h; exact h.elim
      | some vs =>
        rw [hx] at h
        simp only at h
        unfold pRow at h
        cases hel : elemP P t with
        | none => rw [hel] at h; exact h.elim
        | some es =>
          obtain ⟨el, size⟩ := es
          rw [hel] at h
          simp only at h
          cases hrw : rowV P el size n vs with
          | none => rw [hrw] at h; exact h.elim
          | some l =>
            rw [hrw] at h
            exact run1 (semE_sound hr (by simp only [semE, hx])) (run_rowV hel hrw w) h
    | _ => exact hlast h
  obtain ⟨dst, op, type, pos, after, guard⟩ := o
  cases op with
  | pick c x y =>
    simp only [exE] at h
    cases hc : ev e c with
    | none => simp only [hc] at h; exact h.elim
    | some cv =>
    cases hx : ev e x with
    | none => simp only [hc, hx] at h; exact h.elim
    | some xv =>
    cases hy : ev e y with
    | none => simp only [hc, hx, hy] at h; exact h.elim
    | some yv =>
    simp only [hc, hx, hy] at h
    have e1 := ev_sound hr hc
    have e2 := ev_sound hr hx
    have e3 := ev_sound hr hy
    unfold pPick at h
    cases cv with
    | bool b =>
      cases b with
      | true =>
        refine After.of_run (v := xv) (w' := w) ?_ (fin _ _ h)
        simp [execOp, e1, e2, asBool]
      | false =>
        refine After.of_run (v := yv) (w' := w) ?_ (fin _ _ h)
        simp [execOp, e1, e3, asBool]
    | _ => exact h.elim
  | nilCheck x =>
    simp only [exE] at h
    cases hx : ev e x with
    | none => simp only [hx] at h; exact h.elim
    | some xv =>
    simp only [hx] at h
    have e1 := ev_sound hr hx
    unfold pNil at h
    cases xv with
    | pointer p =>
      cases p with
      | none => exact h.elim
      | some p =>
        exact After.of_run (w' := w) (by simp [execOp, e1]) (fin _ _ h)
    | func fn first captured =>
      cases fn with
      | func f =>
        exact After.of_run (w' := w) (by simp [execOp, e1]) (fin _ _ h)
      | _ => exact h.elim
    | _ => exact h.elim
  | call c =>
    obtain ⟨callee, args, argTypes⟩ := c
    have hargs : ∀ vs, evs e args.toList = some vs → args.map a.eval = vs.toArray := fun vs hv => by
      rw [← evs_sound hr hv, ← List.map_toArray]
    have called : ∀ (f : FuncId) (xs : Array Value), (execOp a.eval ⟨dst, .call ⟨callee, args, argTypes⟩, type, pos, after, guard⟩).run P w = .ok (.enter f xs) w →
        Calls P f xs w (retK fun v => putE nt e dst v K) → After P ⟨dst, .call ⟨callee, args, argTypes⟩, type, pos, after, guard⟩ a w N Q := by
      intro f xs hrun hc
      left
      unfold Oper.wp
      rw [hrun]
      refine Calls.mono hc fun en w' hen => ?_
      cases en with
      | returned v => exact fin v w' hen
      | panicked c => exact hen.elim
      | outgrown => exact hen.elim
    have dyn : ∀ f : Operand, callee = .value f → dynE P e f args.toList (fun v => putE nt e dst v K) w → After P ⟨dst, .call ⟨callee, args, argTypes⟩, type, pos, after, guard⟩ a w N Q := by
      intro f hf hd
      subst hf
      unfold dynE at hd
      cases hfv : ev e f with
      | none => simp only [hfv] at hd; exact hd.elim
      | some fv =>
      cases hv : evs e args.toList with
      | none => simp only [hfv, hv] at hd; exact hd.elim
      | some vs =>
      simp only [hfv, hv] at hd
      unfold pCallV at hd
      cases fv with
      | func fn first captured =>
        cases fn with
        | func g =>
          refine called g _ ?_ hd.2
          simp [execOp, resolve, ev_sound hr hfv, Deferred.ofValue, invoke, hargs vs hv, callFunc_body hd.1]
        | _ => exact hd.elim
      | _ => exact hd.elim
    cases callee with
    | builtin b => exact hrest h
    | invoke r m => exact hrest h
    | value f =>
      cases f with
      | func f =>
        simp only [exE] at h
        cases hv : evs e args.toList with
        | none => simp only [hv] at h; exact h.elim
        | some vs =>
        simp only [hv] at h
        have he : execOp a.eval ⟨dst, .call ⟨.value (.func f), args, argTypes⟩, type, pos, after, guard⟩ = callFunc f vs.toArray := by
          simp [execOp, resolve, Act.eval, Deferred.ofValue, invoke, hargs vs hv]
        cases hb : hasBody P f with
        | true =>
          rw [hb] at h
          exact called f vs.toArray (by rw [he, callFunc_body hb]) h.2
        | false =>
          rw [hb] at h
          obtain ⟨v, w', hrun, hk⟩ := h
          exact After.of_run (v := v) (w' := w') (by rw [he, hrun]) (fin _ _ hk)
      | tmp t => exact dyn _ rfl h
      | const v => exact dyn _ rfl h
      | global g => exact dyn _ rfl h
  | _ => exact hrest h
end
def regE (P : Program) (ag : List Nat) (nt : Nat) (ops : Array Oper) : Nat → List Oper → Kn → Env → (Env → World → Prop) → World → Prop
  | _, [], _, e, K => K e
  | i, o :: rest, kn, e, K => gdE ops kn e o (fun kn => match pickE ops kn o with
        | some x => match ev e x with
          | some v => putE nt e o.dst v fun e' => regE P ag nt ops (i + 1) rest (kn.alias ops i o.dst x) e' K
          | none => no
        | none => exE P ag nt e o fun e' => regE P ag nt ops (i + 1) rest (kn.drop ops o.dst) e' K)
      (fun kn => putE nt e o.dst undef fun e' => regE P ag nt ops (i + 1) rest (kn.skip ops i o.dst) e' K)
def dsts : List Oper → List Nat
  | [] => []
  | o :: l => dstL o ++ dsts l
section
variable {P : Program}
theorem regE_sound {ag : List Nat} {nt : Nat} {ops : Array Oper} {K : Env → World → Prop} {Q : Exit → Act → World → Prop} (hout : True) :
    ∀ (l : List Oper) (i : Nat) (kn : Kn) (e : Env) (a : Act) (w : World), (∀ j, l[j]? = ops[i + j]?) → Kn.ok ops kn a → Rep e a → a.tmps.size = nt →
      (∀ e' a' w', Rep e' a' → Kp (dsts l) a a' → K e' w' → Q .normal a' w') → regE P ag nt ops i l kn e K w → wpList P ops Q l a w
  | [], i, kn, e, a, w, _, _, hr, _, hK, h => hK e a w hr (Kp.refl _ _) h
  | o :: l, i, kn, e, a, w, hl, hkn, hr, hn, hK, h => by
    have ho : ops[i]? = some o := by simpa using (hl 0).symm
    have hl' : ∀ j, l[j]? = ops[i + 1 + j]? := fun j => by have := hl (j + 1); simpa [Nat.add_assoc, Nat.add_comm 1 j] using this
    have step : ∀ kn' e' a' w', Kn.ok ops kn' a' → Rep e' a' → Kp (dstL o) a a' → regE P ag nt ops (i + 1) l kn' e' K w' → wpList P ops Q l a' w' := fun kn' e' a' w' hkn' hr' hk hreg =>
      regE_sound hout l (i + 1) kn' e' a' w' hl' hkn' hr' (hk.2.1.trans hn) (fun e2 a2 w2 h2 hk2 hK2 => hK e2 a2 w2 h2 (hk.trans hk2) hK2) hreg
    unfold regE at h
    unfold wpList
    rcases gdE_sound hr hkn h with ⟨hw, kn', hkn', h⟩ | ⟨hw, kn', hkn', h⟩
    · rw [if_pos hw]
      cases hp : pickE ops kn' o with
      | none =>
        rw [hp] at h
        exact exE_sound hr hn hout (fun e' v w' h1 h2 h3 => step _ e' _ w' (Kn.drop_ok hkn') h1 h2 h3) h
      | some x =>
        rw [hp] at h
        simp only at h
        cases hv : ev e x with
        | none => rw [hv] at h; exact h.elim
        | some v =>
          rw [hv] at h
          obtain ⟨e', h1, h2, h3⟩ := putE_sound hr hn h
          exact After.of_run (pickE_run hr hkn' hp hv w) (step _ e' _ w (Kn.alias_ok hr hkn' ho (putE_lt hn h) hv) h1 h2 h3)
    · rw [hw, if_neg Bool.false_ne_true]
      obtain ⟨e', h1, h2, h3⟩ := putE_sound hr hn h
      exact step _ e' _ w (Kn.skip_ok ho hkn') h1 h2 h3
end
/-- Operations that look at nothing but their operands. -/
def isPure : Op → Bool
  | .move _ | .assign _ | .pick .. | .fieldAddr .. | .field .. | .indexAddr .. | .index .. | .unOp .. | .binOp .. | .extract .. | .build .. | .slice .. | .makeFunc ..
  | .makeInterface .. | .nilCheck _ => true
  | .call { callee := .builtin b, .. } => match b with | .len | .cap | .max | .min => true | _ => false
  | _ => false
def isLoad : Op → Bool
  | .load .. => true
  | _ => false
def waits (ops : Array Oper) (j i : Nat) : Bool :=
  match ops[j]? with
  | some o => o.after.toList.any fun e => Region.binds .any e && Nat.beq e.on i
  | none => false
/-- It waits, through others too. -/
def waitsT (ops : Array Oper) : Nat → Nat → Nat → Bool
  | 0, _, _ => false
  | n + 1, j, i => match ops[j]? with
    | some o => o.after.toList.any fun e => Region.binds .any e && (Nat.beq e.on i || waitsT ops n e.on i)
    | none => false
def isStoreAt (ops : Array Oper) (j : Nat) : Bool :=
  match ops[j]? with
  | some o => match o.op with | .store .. => true | _ => false
  | none => false
def isSoftAt (ops : Array Oper) (j : Nat) : Bool :=
  match ops[j]? with
  | some o => isPure o.op || isLoad o.op
  | none => false
/-- Two stores or more, and no other effects. -/
def twoStores (ops : Array Oper) : Bool :=
  (List.range ops.size).all (fun j => isSoftAt ops j || isStoreAt ops j) && Nat.ble 2 ((List.range ops.size).filter (isStoreAt ops)).length
/-- A load ahead of all effects, in a statement that stores twice. -/
def early (ops : Array Oper) (i : Nat) : Bool :=
  twoStores ops && (List.range ops.size).all fun j => isSoftAt ops j || waitsT ops 6 j i
/-- May a load come up behind operation j? -/
def keep0 (ops : Array Oper) (j : Nat) : Bool :=
  (List.range ops.size).any fun i => match ops[i]? with
    | some o => isLoad o.op && !(Nat.beq i j) && !(waits ops j i) && !(isStoreAt ops j && waitsT ops 6 j i)
    | none => false
/-- What is listed came up behind all that it waits for. -/
def Closed (ops : Array Oper) (listed : Array Bool) : Prop :=
  ∀ k o, ops[k]? = some o → listed.getD k false = true → ∀ e ∈ o.after, Region.binds .any e = true → listed.getD e.on false = true
theorem waitsT_dep {ops : Array Oper} {listed : Array Bool} (hc : Closed ops listed) : ∀ (n j i : Nat), (∀ o, ops[j]? = some o → ∀ e ∈ o.after, Region.binds .any e = true → listed.getD e.on false = true) → waitsT ops n j i = true → listed.getD i false = true
  | 0, _, _, _, h => by cases h
  | n + 1, j, i, hj, h => by
    unfold waitsT at h
    cases ho : ops[j]? with
    | none => rw [ho] at h; cases h
    | some o =>
      rw [ho] at h
      simp only [List.any_eq_true, Bool.and_eq_true, Bool.or_eq_true] at h
      obtain ⟨e, he, hb, h⟩ := h
      have hl := hj o ho e (by simpa using he) hb
      rcases h with h | h
      · rw [Nat.eq_of_beq_eq_true h] at hl; exact hl
      · exact waitsT_dep hc n e.on i (fun o' ho' e' he' hb' => hc e.on o' ho' hl e' he' hb') h
theorem Closed.set {ops : Array Oper} {listed : Array Bool} (hc : Closed ops listed) {j : Nat} (hj : j ∈ Region.ready .any ops listed) : Closed ops (listed.setIfInBounds j true) := by
  obtain ⟨_, oj, hoj, hall⟩ := mem_ready.1 hj
  intro k o ho hk e he hb
  refine getD_set_true ?_
  by_cases hkj : j = k
  · subst hkj
    rw [hoj] at ho; cases ho
    exact hall e he hb
  · rw [getD_set_ne false hkj] at hk
    exact hc k o ho hk e he hb
theorem Closed.none (ops : Array Oper) (n : Nat) : Closed ops (Array.replicate n false) := by
  intro k o _ hk
  exfalso
  rw [Array.getD_eq_getD_getElem?] at hk
  rw [Array.getElem?_replicate] at hk
  split at hk <;> simp at hk
theorem ready_not_waits {ops : Array Oper} {listed : Array Bool} (hc : Closed ops listed) {i j : Nat} (hj : j ∈ Region.ready .any ops listed) (hi : listed.getD i true = false) (n : Nat) : waitsT ops n j i = false := by
  cases h : waitsT ops n j i with
  | false => rfl
  | true =>
    obtain ⟨_, oj, hoj, hall⟩ := mem_ready.1 hj
    have := waitsT_dep hc n j i (fun o ho e he hb => by rw [hoj] at ho; cases ho; exact hall e he hb) h
    rw [Array.getD_eq_getD_getElem?] at this hi
    cases hx : listed[i]? with
    | none => rw [hx] at hi; simp at hi
    | some b => rw [hx] at hi this; simp at hi this; rw [hi] at this; cases this
/-- Must the condition hold behind operation j? -/
def keepS (ops : Array Oper) (j : Nat) : Bool :=
  keep0 ops j || (List.range ops.size).any fun i => match ops[i]? with
    | some o => !(isPure o.op || isLoad o.op) && !(Nat.beq i j) && !(waits ops j i) && keep0 ops i
    | none => false
/-- Whatever order is picked, and the condition holds behind each operation that is told. -/
def wpAnyK (P : Program) (ops : Array Oper) (Q : Exit → Act → World → Prop) (S : World → Prop) : Nat → Array Bool → Act → World → Prop
  | 0, listed, a, w => Region.ready .any ops listed = [] ∧ Q .normal a w
  | fuel + 1, listed, a, w =>
    (Region.ready .any ops listed = [] → Q .normal a w) ∧
    ∀ i ∈ Region.ready .any ops listed, wpOp P ops Q i (fun a' w' => ((keepS ops i = true → S w → S w') ∧ (isSoftAt ops i = true → w' = w)) ∧ wpAnyK P ops Q S fuel (listed.setIfInBounds i true) a' w') a w
section
variable {P : Program} {ops : Array Oper} {Q : Exit → Act → World → Prop} {S : World → Prop}
theorem wpAny_of_K : ∀ (fuel : Nat) (listed : Array Bool) (a : Act) (w : World), wpAnyK P ops Q S fuel listed a w → wpAny P .any ops Q fuel listed a w
  | 0, _, _, _, h => h
  | fuel + 1, _, _, _, h => ⟨h.1, fun i hi => wpOp_mono (fun a' w' h' => wpAny_of_K fuel _ a' w' h'.2) (h.2 i hi)⟩
theorem wpAnyK_first {i : Nat} {oi : Oper} {v : Value} {T : World → Prop} (hi : ops[i]? = some oi) (hsel : ∀ (j : Nat) (o : Oper) cs b, ops[j]? = some o → o.op ≠ .select cs b)
    (hQ : ∀ c a w, Q (.panic c) (a.put oi.dst v) w → Q (.panic c) a w) :
    ∀ (fuel : Nat) (listed : Array Bool) (a : Act) (w : World),
      Closed ops listed → (∀ j oj, ops[j]? = some oj → j ≠ i → listed.getD j true = false → (∀ e ∈ oj.after, Region.binds .any e = true → e.on ≠ i) → waitsT ops 6 j i = false →
        oi.apart ops oj = true ∧ ∀ w w', (keepS ops j = true → S w → S w') → (isSoftAt ops j = true → w' = w) → T w → T w') →
      i ∈ Region.ready .any ops listed → YieldsIf P ops T oi v a → T w →
      wpAnyK P ops Q S fuel (listed.setIfInBounds i true) (a.put oi.dst v) w → wpAnyK P ops Q S (fuel + 1) listed a w := by
  intro fuel
  induction fuel with
  | zero =>
    intro listed a w _ _ hr hy hT H
    refine ⟨fun h => (by rw [h] at hr; cases hr), fun j hj => ?_⟩
    by_cases hji : j = i
    · subst hji; exact hy.wpOp hi hT ⟨⟨fun _ h => h, fun _ => rfl⟩, H⟩
    · have := ready_mono hj hji
      rw [H.1] at this
      cases this
  | succ fuel ih =>
    intro listed a w hcl hfree hr hy hT H
    refine ⟨fun h => (by rw [h] at hr; cases hr), fun j hj => ?_⟩
    by_cases hji : j = i
    · subst hji; exact hy.wpOp hi hT ⟨⟨fun _ h => h, fun _ => rfl⟩, H⟩
    · have h1 := H.2 j (ready_mono hj hji)
      obtain ⟨hjun, oj, hoj, hall⟩ := mem_ready.1 hj
      have hnot : ∀ e ∈ oj.after, Region.binds .any e = true → e.on ≠ i := fun e he hb heq => by
        have h1 := hall e he hb
        have h0 := (mem_ready.1 hr).1
        rw [heq] at h1
        rcases Nat.lt_or_ge i listed.size with h' | h'
        · simp [h'] at h0 h1; rw [h0] at h1; cases h1
        · simp [Array.getElem?_eq_none h'] at h1
      obtain ⟨hap, hST⟩ := hfree j oj hoj hji hjun hnot (ready_not_waits hcl hj (mem_ready.1 hr).1 6)
      have h2 := wpOp_putIf hoj hap (fun cs b => hsel i oi cs b hi) (fun cs b => hsel j oj cs b hoj) hQ hy h1
      have hfree' : ∀ k ok, ops[k]? = some ok → k ≠ i → (listed.setIfInBounds j true).getD k true = false →
          (∀ e ∈ ok.after, Region.binds .any e = true → e.on ≠ i) → waitsT ops 6 k i = false → oi.apart ops ok = true ∧ ∀ w w', (keepS ops k = true → S w → S w') → (isSoftAt ops k = true → w' = w) → T w → T w' := fun k ok hk hki hun hno hwt => by
        refine hfree k ok hk hki ?_ hno hwt
        by_cases hjk : j = k
        · subst hjk; exact hjun
        · rw [getD_set_ne true hjk] at hun; exact hun
      refine wpOp_mono (fun a' w' h3 => ⟨h3.2.1, ih (listed.setIfInBounds j true) a' w' (hcl.set hj) hfree' (ready_mono hr (Ne.symm hji)) h3.1 (hST w w' h3.2.1.1 h3.2.1.2 hT) ?_⟩) h2
      rw [Array.setIfInBounds_comm _ _ hji]
      exact h3.2.2
end
def pPure (P : Program) (s : Sem Value) (K : Value → World → Prop) : World → Prop := pHold P (fun _ => True) s K
/-- Soft operations but for picks and nil checks. -/
def restH (P : Program) (ag : List Nat) (S : World → Prop) (nt : Nat) (e : Env) (o : Oper) (K : Env → World → Prop) : World → Prop :=
  match valE e o.op with
  | some v => putE nt e o.dst v K
  | none => match pvE P ag e o.op with
    | some ov => pVal ov fun v => putE nt e o.dst v K
    | none => match o.op with
      | .load t x => match ev e x with | some x => pHld P S t x fun v => putE nt e o.dst v K | none => no
      | op => match semE e op o.type with
        | some s => pPure P s fun v => putE nt e o.dst v K
        | none => no
/-- A soft operation: one value in all worlds of the class. -/
def hoE (P : Program) (ag : List Nat) (S : World → Prop) (nt : Nat) (e : Env) (o : Oper) (K : Env → World → Prop) : World → Prop :=
  match o.op with
  | .pick c a b => match ev e c with
    | some c => match ev e a with
      | some a => match ev e b with
        | some b => pPick c a b fun v => putE nt e o.dst v K
        | none => no
      | none => no
    | none => no
  | .nilCheck x => match ev e x with
    | some x => pNil x fun v => putE nt e o.dst v K
    | none => no
  | _ => restH P ag S nt e o K
def softAt (ops : Array Oper) (listed : Array Bool) (i : Nat) : Bool :=
  match ops[i]? with
  | some o => (isPure o.op || isLoad o.op) && Region.free .any ops listed i
  | none => false
def findSoft (ops : Array Oper) (listed : Array Bool) : List Nat → Option Nat
  | [] => none
  | i :: l => match softAt ops listed i with | true => some i | false => findSoft ops listed l
def allE (f : Nat → World → Prop) : List Nat → World → Prop
  | [] => fun _ => True
  | [i] => f i
  | i :: l => pAnd (f i) (allE f l)
/-- A load ahead of all effects. -/
def ldE (P : Program) (nt : Nat) (e : Env) (o : Oper) (K : Env → World → Prop) : World → Prop :=
  match o.op with
  | .load t x => match ev e x with
    | some x => pLd P t x fun v => putE nt e o.dst v K
    | none => no
  | _ => no
def drawE (P : Program) (ag : List Nat) (nt : Nat) (ops : Array Oper) (S : World → Prop) (K : Env → World → Prop) : Nat → Array Bool → Bool → Bool → Kn → Env → World → Prop
  | 0, listed, _, _, _, e => match Region.ready .any ops listed with | [] => K e | _ => no
  | fuel + 1, listed, have_, st, kn, e => match Region.ready .any ops listed with
    | [] => K e
    | i0 :: rs => match findSoft ops listed (i0 :: rs) with
      | some i => match ops[i]? with
        | some o => match !(isLoad o.op) || have_ with
          | true => gdE ops kn e o (fun kn => match pickE ops kn o with
                | some x => match ev e x with
                  | some v => putE nt e o.dst v fun e' => drawE P ag nt ops S K fuel (listed.setIfInBounds i true) have_ st (kn.alias ops i o.dst x) e'
                  | none => no
                | none => match st && isLoad o.op && early ops i with
                  | true => ldE P nt e o fun e' => drawE P ag nt ops S K fuel (listed.setIfInBounds i true) have_ st (kn.drop ops o.dst) e'
                  | false => hoE P ag S nt e o fun e' => drawE P ag nt ops S K fuel (listed.setIfInBounds i true) have_ st (kn.drop ops o.dst) e')
              (fun kn => putE nt e o.dst undef fun e' => drawE P ag nt ops S K fuel (listed.setIfInBounds i true) have_ st (kn.skip ops i o.dst) e')
          | false => no
        | none => no
      | none => allE (fun i => match ops[i]? with
        | some o => match have_ || !(keepS ops i) with
          | true => gdE ops kn e o (fun kn => match isSoftAt ops i with
              | true => no
              | false => exE P ag nt e o fun e' => pKeep (keepS ops i) S (drawE P ag nt ops S K fuel (listed.setIfInBounds i true) (keepS ops i) false (kn.drop ops o.dst) e'))
              (fun kn => putE nt e o.dst undef fun e' => drawE P ag nt ops S K fuel (listed.setIfInBounds i true) (keepS ops i) false (kn.skip ops i o.dst) e')
          | false => no
        | none => no) (i0 :: rs)
section
variable {P : Program} {ops : Array Oper} {Q : Exit → Act → World → Prop} {S : World → Prop}
theorem allE_mem {f : Nat → World → Prop} {w : World} : ∀ {l : List Nat}, allE f l w → ∀ i ∈ l, f i w
  | [], _, i, hi => by cases hi
  | [j], h, i, hi => by simp only [List.mem_singleton] at hi; subst hi; exact h
  | j :: k :: l, h, i, hi => by
    rcases List.mem_cons.1 hi with rfl | hi
    · exact h.1
    · exact allE_mem h.2 i hi
theorem findSoft_some {listed : Array Bool} : ∀ {l : List Nat} {i : Nat}, findSoft ops listed l = some i → i ∈ l ∧ softAt ops listed i = true
  | [], i, h => by simp [findSoft] at h
  | j :: l, i, h => by
    unfold findSoft at h
    cases hs : softAt ops listed j with
    | true => rw [hs] at h; cases h; exact ⟨List.mem_cons_self, hs⟩
    | false => rw [hs] at h; obtain ⟨h1, h2⟩ := findSoft_some h; exact ⟨List.mem_cons_of_mem _ h1, h2⟩
/-- What a soft operation yields. -/
theorem hoE_sound {ag : List Nat} {nt : Nat} {e : Env} {a : Act} {o : Oper} {K : Env → World → Prop} {w : World}
    (hr : Rep e a) (hn : a.tmps.size = nt) (hw : Region.wanted o (yielded ops a.tmps) = true) (h : hoE P ag S nt e o K w) :
    ∃ v e', YieldsIf P ops (fun w => isLoad o.op = true → S w) o v a ∧ Rep e' (a.put o.dst v) ∧ Kp (dstL o) a (a.put o.dst v) ∧ K e' w := by
  have pack : ∀ v, (∀ w, (isLoad o.op = true → S w) → (execOp a.eval o).run P w = .ok (.value v) w) → putE nt e o.dst v K w →
      ∃ v e', YieldsIf P ops (fun w => isLoad o.op = true → S w) o v a ∧ Rep e' (a.put o.dst v) ∧ Kp (dstL o) a (a.put o.dst v) ∧ K e' w := fun v hv hp =>
    let ⟨e', h1, h2, h3⟩ := putE_sound hr hn hp
    ⟨v, e', .inl ⟨hw, hv⟩, h1, h2, h3⟩
  have hrest : restH P ag S nt e o K w → ∃ v e', YieldsIf P ops (fun w => isLoad o.op = true → S w) o v a ∧ Rep e' (a.put o.dst v) ∧ Kp (dstL o) a (a.put o.dst v) ∧ K e' w := by
    intro h
    unfold restH at h
    cases hv : valE e o.op with
    | some v =>
      rw [hv] at h
      exact pack v (fun w _ => by rw [valE_sound hr hv]; rfl) h
    | none =>
    rw [hv] at h
    simp only at h
    cases hpv : pvE P ag e o.op with
    | some ov =>
      rw [hpv] at h
      simp only at h
      cases ov with
      | none => exact h.elim
      | some v => exact pack v (fun w _ => pvE_sound hr hpv w) h
    | none =>
    rw [hpv] at h
    simp only at h
    have hlast : (match semE e o.op o.type with
        | some s => pPure P s fun v => putE nt e o.dst v K
        | none => no) w → ∃ v e', YieldsIf P ops (fun w => isLoad o.op = true → S w) o v a ∧ Rep e' (a.put o.dst v) ∧ Kp (dstL o) a (a.put o.dst v) ∧ K e' w := by
      intro h
      cases hs : semE e o.op o.type with
      | none => rw [hs] at h; exact h.elim
      | some s =>
        rw [hs] at h
        obtain ⟨v, hv, hk⟩ := h
        exact pack v (fun w hS => by rw [semE_sound hr hs]; simp [vSem, hv w trivial]) hk
    obtain ⟨dst, op, type, pos, after, guard⟩ := o
    cases op with
    | load t x =>
      simp only at h
      cases hx : ev e x with
      | none => rw [hx] at h; exact h.elim
      | some xv =>
        rw [hx] at h
        obtain ⟨v, hv, hk⟩ := h
        refine pack v (fun w hS => ?_) hk
        have he := semE_sound hr (o := ⟨dst, .load t x, type, pos, after, guard⟩) (s := Instr.loadAt t xv) (by simp only [semE, hx])
        rw [he]
        simp [vSem, run_rd (hv w (hS rfl))]
    | _ => exact hlast h
  obtain ⟨dst, op, type, pos, after, guard⟩ := o
  cases op with
  | pick c x y =>
    simp only [hoE] at h
    cases hc : ev e c with
    | none => simp only [hc] at h; exact h.elim
    | some cv =>
    cases hx : ev e x with
    | none => simp only [hc, hx] at h; exact h.elim
    | some xv =>
    cases hy : ev e y with
    | none => simp only [hc, hx, hy] at h; exact h.elim
    | some yv =>
    simp only [hc, hx, hy] at h
    have e1 := ev_sound hr hc
    have e2 := ev_sound hr hx
    have e3 := ev_sound hr hy
    unfold pPick at h
    cases cv with
    | bool b =>
      cases b with
      | true => exact pack xv (fun w _ => by simp [execOp, e1, e2, asBool]) h
      | false => exact pack yv (fun w _ => by simp [execOp, e1, e3, asBool]) h
    | _ => exact h.elim
  | nilCheck x =>
    simp only [hoE] at h
    cases hx : ev e x with
    | none => simp only [hx] at h; exact h.elim
    | some xv =>
    simp only [hx] at h
    have e1 := ev_sound hr hx
    unfold pNil at h
    cases xv with
    | pointer p =>
      cases p with
      | none => exact h.elim
      | some p =>
        exact pack _ (fun w _ => by simp [execOp, e1]) h
    | func fn first captured =>
      cases fn with
      | func f =>
        exact pack _ (fun w _ => by simp [execOp, e1]) h
      | _ => exact h.elim
    | _ => exact h.elim
  | _ => exact hrest h
theorem keepS_load {i j : Nat} {oi oj : Oper} (hi : ops[i]? = some oi) (hl : isLoad oi.op = true) (hj : ops[j]? = some oj) (hji : j ≠ i)
    (hno : ∀ e ∈ oj.after, Region.binds .any e = true → e.on ≠ i) (hwt : waitsT ops 6 j i = false) : keepS ops j = true := by
  unfold keepS
  rw [Bool.or_eq_true]
  left
  unfold keep0
  rw [List.any_eq_true]
  refine ⟨i, List.mem_range.2 (Array.getElem?_eq_some_iff.1 hi).1, ?_⟩
  have h1 : Nat.beq i j = false := by
    cases hb : Nat.beq i j with
    | false => rfl
    | true => exact absurd (Nat.eq_of_beq_eq_true hb).symm hji
  have h2 : waits ops j i = false := by
    unfold waits
    rw [hj]
    simp only
    rw [List.any_eq_false]
    intro e he
    simp only [Bool.and_eq_true, not_and, Bool.not_eq_true]
    intro hb
    cases hx : Nat.beq e.on i with
    | false => rfl
    | true => exact absurd (Nat.eq_of_beq_eq_true hx) (hno e (by simpa using he) hb)
  simp [hi, hl, h1, h2, hwt]
theorem drawE_sound {ag : List Nat} {nt : Nat} {K : Env → World → Prop} {a0 : Act} (hout : True) (hsel : Region.noSelect ops = true)
    (hQ : ∀ c a a' w, Q (.panic c) a w → Q (.panic c) a' w) {T : List Nat} (hT : ∀ (i : Nat) (o : Oper), ops[i]? = some o → ∀ t ∈ dstL o, t ∈ T)
    (hK : ∀ e' a' w', Rep e' a' → Kp T a0 a' → K e' w' → Q .normal a' w') :
    ∀ (fuel : Nat) (listed : Array Bool) (hv st : Bool) (kn : Kn) (e : Env) (a : Act) (w : World), Closed ops listed → Kn.ok ops kn a → Rep e a → a.tmps.size = nt → Kp T a0 a → (hv = true → S w) →
      drawE P ag nt ops S K fuel listed hv st kn e w → wpAnyK P ops Q S fuel listed a w := by
  intro fuel
  induction fuel with
  | zero =>
    intro listed hv st kn e a w hcl hkn hr hn hk hS h
    unfold drawE at h
    cases hrd : Region.ready .any ops listed with
    | nil => rw [hrd] at h; exact ⟨hrd, hK e a w hr hk h⟩
    | cons i l => rw [hrd] at h; exact h.elim
  | succ fuel ih =>
    intro listed hv st kn e a w hcl hkn hr hn hk hS h
    unfold drawE at h
    cases hrd : Region.ready .any ops listed with
    | nil => rw [hrd] at h; exact ⟨fun _ => hK e a w hr hk h, fun i hi => by rw [hrd] at hi; cases hi⟩
    | cons i0 rs =>
      rw [hrd] at h
      simp only at h
      have kput : ∀ (o : Oper) (i : Nat), ops[i]? = some o → ∀ a', Kp (dstL o) a a' → Kp T a0 a' := fun o i hi a' hk' =>
        (hk.trans hk').mono fun t ht => (List.mem_append.1 ht).elim id (hT i o hi t)
      cases hfs : findSoft ops listed (i0 :: rs) with
      | some i =>
        rw [hfs] at h
        obtain ⟨hmem, hsoft⟩ := findSoft_some hfs
        simp only at h
        cases hi : ops[i]? with
        | none => rw [hi] at h; exact h.elim
        | some o =>
          rw [hi] at h
          simp only at h
          unfold softAt at hsoft
          rw [hi] at hsoft
          simp only [Bool.and_eq_true] at hsoft
          have hfree := Region.free_spec hi hsoft.2
          have hcs : Closed ops (listed.setIfInBounds i true) := hcl.set (by rw [hrd]; exact hmem)
          cases hlv : (!(isLoad o.op) || hv) with
          | false => rw [hlv] at h; exact h.elim
          | true =>
            rw [hlv] at h
            simp only at h
            have hTw : isLoad o.op = true → S w := fun hl => hS (by simpa [hl] using hlv)
            have take : ∀ v, YieldsIf P ops (fun w => isLoad o.op = true → S w) o v a →
                wpAnyK P ops Q S fuel (listed.setIfInBounds i true) (a.put o.dst v) w → wpAnyK P ops Q S (fuel + 1) listed a w := fun v hy H =>
              wpAnyK_first hi (Region.noSelect_spec hsel) (fun c a w => hQ c _ _ w) fuel listed a w hcl
                (fun j oj hj hji hun hno hwt => ⟨hfree j oj hj hji hun hno, fun w1 w2 hst _ hw1 hl => hst (keepS_load hi hl hj hji hno hwt) (hw1 hl)⟩)
                (by rw [hrd]; exact hmem) hy hTw H
            rcases gdE_sound hr hkn h with ⟨hw, kn', hkn', h⟩ | ⟨hw, kn', hkn', h⟩
            · cases hp : pickE ops kn' o with
              | none =>
                rw [hp] at h
                simp only at h
                cases hel : (st && isLoad o.op && early ops i) with
                | true =>
                  rw [hel] at h
                  simp only at h
                  simp only [Bool.and_eq_true] at hel
                  obtain ⟨⟨_, hld⟩, hearly⟩ := hel
                  obtain ⟨dst, op, type, pos, after, guard⟩ := o
                  cases op with
                  | load t x =>
                    simp only [ldE] at h
                    cases hx : ev e x with
                    | none => rw [hx] at h; exact h.elim
                    | some xv =>
                      rw [hx] at h
                      simp only at h
                      unfold pLd at h
                      cases hrdv : rd P t w xv with
                      | none => rw [hrdv] at h; exact h.elim
                      | some v =>
                        rw [hrdv] at h
                        simp only at h
                        obtain ⟨e', h1, h2, h3⟩ := putE_sound (o := ⟨dst, .load t x, type, pos, after, guard⟩) hr hn h
                        have hyl : YieldsIf P ops (fun w' => w' = w) ⟨dst, .load t x, type, pos, after, guard⟩ v a := .inl ⟨hw, fun w' hw' => by
                          subst hw'
                          have he := semE_sound hr (o := ⟨dst, .load t x, type, pos, after, guard⟩) (s := Instr.loadAt t xv) (by simp only [semE, hx])
                          rw [he]
                          simp [vSem, run_rd hrdv]⟩
                        have hsofts : ∀ (j : Nat) (oj : Oper), ops[j]? = some oj → waitsT ops 6 j i = false → isSoftAt ops j = true := fun j oj hoj hwt => by
                          unfold early at hearly
                          simp only [Bool.and_eq_true, List.all_eq_true, List.mem_range, Bool.or_eq_true] at hearly
                          rcases hearly.2 j (Array.getElem?_eq_some_iff.1 hoj).1 with h | h
                          · exact h
                          · rw [hwt] at h; cases h
                        exact wpAnyK_first hi (Region.noSelect_spec hsel) (fun c a w => hQ c _ _ w) fuel listed a w hcl
                          (fun j oj hj hji hun hno hwt => ⟨hfree j oj hj hji hun hno, fun w1 w2 _ hsf hw1 => (hsf (hsofts j oj hj hwt)).trans hw1⟩)
                          (by rw [hrd]; exact hmem) hyl rfl (ih _ hv _ _ e' _ w hcs (Kn.drop_ok hkn') h1 (h2.2.1.trans hn) (kput _ i hi _ h2) hS h3)
                  | _ => exact h.elim
                | false =>
                rw [hel] at h
                simp only at h
                obtain ⟨v, e', hy, h1, h2, h3⟩ := hoE_sound (ops := ops) hr hn hw h
                exact take v hy (ih _ hv _ _ e' _ w hcs (Kn.drop_ok hkn') h1 (h2.2.1.trans hn) (kput o i hi _ h2) hS h3)
              | some x =>
                rw [hp] at h
                simp only at h
                cases hev : ev e x with
                | none => rw [hev] at h; exact h.elim
                | some v =>
                  rw [hev] at h
                  obtain ⟨e', h1, h2, h3⟩ := putE_sound hr hn h
                  exact take v (.inl ⟨hw, fun w _ => pickE_run hr hkn' hp hev w⟩) (ih _ hv _ _ e' _ w hcs (Kn.alias_ok hr hkn' hi (putE_lt hn h) hev) h1 (h2.2.1.trans hn) (kput o i hi _ h2) hS h3)
            · obtain ⟨e', h1, h2, h3⟩ := putE_sound hr hn h
              exact take undef (.inr ⟨hw, rfl⟩) (ih _ hv _ _ e' _ w hcs (Kn.skip_ok hi hkn') h1 (h2.2.1.trans hn) (kput o i hi _ h2) hS h3)
      | none =>
        rw [hfs] at h
        refine ⟨fun h0 => (by rw [hrd] at h0; cases h0), fun i hi => ?_⟩
        have hcs : Closed ops (listed.setIfInBounds i true) := hcl.set hi
        rw [hrd] at hi
        have h := allE_mem h i hi
        cases ho : ops[i]? with
        | none => simp only [ho] at h; exact h.elim
        | some o =>
          simp only [ho] at h
          cases hkv : (hv || !(keepS ops i)) with
          | false => simp only [hkv] at h; exact h.elim
          | true =>
            simp only [hkv] at h
            unfold wpOp
            simp only [ho]
            rcases gdE_sound hr hkn h with ⟨hw, kn', hkn', h⟩ | ⟨hw, kn', hkn', h⟩
            · rw [if_pos hw]
              cases hsa : isSoftAt ops i with
              | true => rw [hsa] at h; exact h.elim
              | false =>
              rw [hsa] at h
              simp only at h
              refine exE_sound (N := fun a' w' => ((keepS ops i = true → S w → S w') ∧ (false = true → w' = w)) ∧ wpAnyK P ops Q S fuel (listed.setIfInBounds i true) a' w') hr hn hout ?_ h
              intro e' v w' h1 h2 h3
              cases hks : keepS ops i with
              | true =>
                rw [hks] at h3
                exact ⟨⟨fun _ _ => h3.1, fun h => by cases h⟩, ih _ true _ _ e' _ w' hcs (Kn.drop_ok hkn') h1 (h2.2.1.trans hn) (kput o i ho _ h2) (fun _ => h3.1) h3.2⟩
              | false =>
                rw [hks] at h3
                exact ⟨⟨fun h => (by cases h), fun h => by cases h⟩, ih _ false _ _ e' _ w' hcs (Kn.drop_ok hkn') h1 (h2.2.1.trans hn) (kput o i ho _ h2) (fun h => (by cases h)) h3⟩
            · rw [hw, if_neg Bool.false_ne_true]
              obtain ⟨e', h1, h2, h3⟩ := putE_sound hr hn h
              refine ⟨⟨fun _ h => h, fun _ => by first | rfl | trivial⟩, ih _ (keepS ops i) _ _ e' _ w hcs (Kn.skip_ok ho hkn') h1 (h2.2.1.trans hn) (kput o i ho _ h2) (fun hks => ?_) h3⟩
              rw [hks] at hkv
              exact hS (by simpa using hkv)
end
def asg : Code → List Nat
  | .region _ ops _ => dsts ops.toList
  | .seq x y => asg x ++ asg y
  | .cond _ x y => asg x ++ asg y
  | .block _ c => asg c
  | .loop c => asg c
  | .scope c => asg c
  | .rangeFunc _ _ x y => asg x ++ asg y
  | _ => []
def key : Code → Option Nat
  | .region id _ _ => some id
  | .seq x y => match key x with | some k => some k | none => key y
  | .cond _ x y => match key x with | some k => some k | none => key y
  | .block _ c => key c
  | .loop c => key c
  | _ => none
def keyR : Code → Option Nat
  | .region id _ _ => some id
  | .seq x y => match keyR y with | some k => some k | none => keyR x
  | .cond _ x y => match keyR y with | some k => some k | none => keyR x
  | .block _ c => keyR c
  | .loop c => keyR c
  | _ => none
/-- A loop's name: the first and the last statement of its body. -/
def keyL (c : Code) : Option Nat :=
  match key c, keyR c with
  | some i, some j => some (i * 128 + j)
  | _, _ => none
abbrev Hints := List (Nat × List Nat)
def Hints.at (h : Hints) : Option Nat → Option (List Nat)
  | none => none
  | some k => match h with
    | [] => none
    | (j, l) :: h => match Nat.beq j k with | true => some l | false => Hints.at h (some k)
/-- What a frame knows but for some temporaries. -/
def dropE (T : List Nat) : Env → Env
  | [] => []
  | (k, v) :: e => match memb k T with | true => dropE T e | false => (k, v) :: dropE T e
def getAll (e : Env) : List Nat → Option (List Value)
  | [] => some []
  | t :: ts => match e.get t with
    | some v => match getAll e ts with | some vs => some (v :: vs) | none => none
    | none => none
def zipE : List Nat → List Value → Env
  | t :: ts, v :: vs => (t, v) :: zipE ts vs
  | _, _ => []
abbrev KE := Exit → Env → World → Prop
def thenE (N : Env → World → Prop) (Q : KE) : KE
  | .normal, e => N e
  | x, e => Q x e
def blockE (id : Nat) (Q : KE) : KE
  | .exit i, e => match Nat.beq i id with | true => Q .normal e | false => Q (.exit i) e
  | x, e => Q x e
def giveE (ts : List Nat) (J : VK) (e : Env) : World → Prop := match getAll e ts with | some vs => J vs | none => no
def joinE (n : Nat) (A : VK → World → Prop) (rest : VK) : World → Prop :=
  match n with
  | 0 => pJoin0 (fun J => A fun vs => match vs with | [] => J | _ => no) (rest [])
  | 1 => pJoin1 (fun J => A fun vs => match vs with | [a] => J a | _ => no) (fun a => rest [a])
  | 2 => pJoin2 (fun J => A fun vs => match vs with | [a, b] => J a b | _ => no) (fun a b => rest [a, b])
  | 3 => pJoin3 (fun J => A fun vs => match vs with | [a, b, c] => J a b c | _ => no) (fun a b c => rest [a, b, c])
  | 4 => pJoin4 (fun J => A fun vs => match vs with | [a, b, c, d] => J a b c d | _ => no) (fun a b c d => rest [a, b, c, d])
  | 5 => pJoin5 (fun J => A fun vs => match vs with | [a, b, c, d, e] => J a b c d e | _ => no) (fun a b c d e => rest [a, b, c, d, e])
  | _ => no
def loopE (n : Nat) (body : VK → VK) (vs : List Value) : World → Prop :=
  match n, vs with
  | 0, [] => pLoop0 fun ag => body (fun vs => match vs with | [] => ag | _ => no) []
  | 1, [x] => pLoop1 (fun ag a => body (fun vs => match vs with | [a] => ag a | _ => no) [a]) x
  | 2, [x, y] => pLoop2 (fun ag a b => body (fun vs => match vs with | [a, b] => ag a b | _ => no) [a, b]) x y
  | 3, [x, y, z] => pLoop3 (fun ag a b c => body (fun vs => match vs with | [a, b, c] => ag a b c | _ => no) [a, b, c]) x y z
  | 4, [x, y, z, u] => pLoop4 (fun ag a b c d => body (fun vs => match vs with | [a, b, c, d] => ag a b c d | _ => no) [a, b, c, d]) x y z u
  | 5, [x, y, z, u, t] => pLoop5 (fun ag a b c d e => body (fun vs => match vs with | [a, b, c, d, e] => ag a b c d e | _ => no) [a, b, c, d, e]) x y z u t
  | _, _ => no
/-- The code as a plain predicate. jh: where ways meet again, and of which temporaries the rest speaks; lh: of which a loop's rounds speak. -/
def tr (P : Program) (ag : List Nat) (nt : Nat) (jh lh : Hints) : Code → KE → Env → World → Prop
  | .skip, Q, e => Q .normal e
  | .ret, Q, e => Q .ret e
  | .exit id, Q, e => Q (.exit id) e
  | .seq x y, Q, e => match jh.at (key y) with
    | some ts => joinE ts.length (fun J => tr P ag nt jh lh x (thenE (giveE ts J) Q) e) (fun vs => tr P ag nt jh lh y Q (zipE ts vs ++ dropE (asg x) e))
    | none => tr P ag nt jh lh x (thenE (tr P ag nt jh lh y Q) Q) e
  | .cond c x y, Q, e => match ev e c with
    | some v => pIf v (tr P ag nt jh lh x Q e) (tr P ag nt jh lh y Q e)
    | none => no
  | .block id c, Q, e => tr P ag nt jh lh c (blockE id Q) e
  | .loop c, Q, e => match lh.at (keyL c) with
    | some ts => match getAll e ts with
      | some vs => loopE ts.length (fun again vs => tr P ag nt jh lh c (thenE (giveE ts again) Q) (zipE ts vs ++ dropE (asg c) e)) vs
      | none => no
    | none => no
  | .region _ ops false, Q, e => regE P ag nt ops 0 ops.toList [] e (Q .normal)
  | .region _ ops true, Q, e => match Region.noSelect ops with
    | true => pDraw fun S => drawE P ag nt ops S (Q .normal) ops.size (Array.replicate ops.size false) true true [] e
    | false => no
  | _, _, _ => no
theorem memb_iff {t : Nat} : ∀ {l : List Nat}, memb t l = true ↔ t ∈ l
  | [] => by simp [memb]
  | u :: l => by
    unfold memb
    cases hb : Nat.beq u t with
    | true => simp [Nat.eq_of_beq_eq_true hb]
    | false =>
      have hne : t ≠ u := fun h => by subst h; simp at hb
      simp [hne, memb_iff (l := l)]
theorem get_dropE {T : List Nat} {t : Nat} {v : Value} : ∀ {e : Env}, (dropE T e).get t = some v → e.get t = some v ∧ t ∉ T
  | [], h => by cases h
  | (k, u) :: e, h => by
    unfold dropE at h
    cases hm : memb k T with
    | true =>
      rw [hm] at h
      obtain ⟨h1, h2⟩ := get_dropE h
      refine ⟨?_, h2⟩
      unfold Env.get
      cases hb : Nat.beq k t with
      | true =>
        have := Nat.eq_of_beq_eq_true hb
        subst this
        exact absurd (memb_iff.1 hm) h2
      | false => exact h1
    | false =>
      rw [hm] at h
      unfold Env.get at h ⊢
      cases hb : Nat.beq k t with
      | true =>
        rw [hb] at h
        have := Nat.eq_of_beq_eq_true hb
        subst this
        refine ⟨h, fun hmem => ?_⟩
        rw [memb_iff.2 hmem] at hm
        cases hm
      | false => rw [hb] at h; exact get_dropE h
theorem get_append {t : Nat} {v : Value} : ∀ {e e' : Env}, Env.get (e ++ e') t = some v → e.get t = some v ∨ e'.get t = some v
  | [], e', h => .inr h
  | (k, u) :: e, e', h => by
    simp only [List.cons_append, Env.get] at h ⊢
    cases hb : Nat.beq k t with
    | true => rw [hb] at h; exact .inl h
    | false => rw [hb] at h; exact get_append h
theorem get_zipE {e : Env} {t : Nat} {v : Value} : ∀ {ts : List Nat} {vs : List Value}, getAll e ts = some vs → (zipE ts vs).get t = some v → e.get t = some v
  | [], vs, _, h => by simp [zipE, Env.get] at h
  | u :: ts, vs, hg, h => by
    unfold getAll at hg
    cases hu : e.get u with
    | none => rw [hu] at hg; cases hg
    | some x =>
      rw [hu] at hg
      cases hts : getAll e ts with
      | none => rw [hts] at hg; cases hg
      | some xs =>
        rw [hts] at hg
        cases hg
        unfold zipE Env.get at h
        cases hb : Nat.beq u t with
        | true =>
          rw [hb] at h
          have := Nat.eq_of_beq_eq_true hb
          subst this
          cases h
          exact hu
        | false => rw [hb] at h; exact get_zipE hts h
theorem getAll_length {e : Env} : ∀ {ts : List Nat} {vs : List Value}, getAll e ts = some vs → vs.length = ts.length
  | [], vs, h => by simp [getAll] at h; simp [← h]
  | u :: ts, vs, h => by
    unfold getAll at h
    cases hu : e.get u with
    | none => rw [hu] at h; cases h
    | some x =>
      rw [hu] at h
      cases hts : getAll e ts with
      | none => rw [hts] at h; cases h
      | some xs => rw [hts] at h; cases h; simp [getAll_length hts]
/-- The frame behind: the temporaries that the rest speaks of, and what was known of those that were left alone. -/
theorem Rep.meet {e e' : Env} {a a' : Act} {ts T : List Nat} {vs : List Value} (hr : Rep e a) (hr' : Rep e' a') (hk : Kp T a a') (hg : getAll e' ts = some vs) :
    Rep (zipE ts vs ++ dropE T e) a' := by
  intro t v ht
  rcases get_append ht with h | h
  · exact hr' t v (get_zipE hg h)
  · obtain ⟨h1, h2⟩ := get_dropE h
    rw [hk.2.2 t h2]
    exact hr t v h1
theorem joinE_out {n : Nat} {A : VK → World → Prop} {rest : VK} {w : World} (h : joinE n A rest w) : pJoinL n A rest w := by
  unfold joinE at h
  split at h
  · obtain ⟨J, h1, h2⟩ := h
    exact ⟨fun vs => match vs with | [] => J [] | _ => no, fun vs w hl hJ => by
      match vs, hl with
      | [], _ => exact h1 [] w rfl hJ, h2⟩
  · obtain ⟨J, h1, h2⟩ := h
    exact ⟨fun vs => match vs with | [a] => J [a] | _ => no, fun vs w hl hJ => by
      match vs, hl with
      | [a], _ => exact h1 [a] w rfl hJ, h2⟩
  · obtain ⟨J, h1, h2⟩ := h
    exact ⟨fun vs => match vs with | [a, b] => J [a, b] | _ => no, fun vs w hl hJ => by
      match vs, hl with
      | [a, b], _ => exact h1 [a, b] w rfl hJ, h2⟩
  · obtain ⟨J, h1, h2⟩ := h
    exact ⟨fun vs => match vs with | [a, b, c] => J [a, b, c] | _ => no, fun vs w hl hJ => by
      match vs, hl with
      | [a, b, c], _ => exact h1 [a, b, c] w rfl hJ, h2⟩
  · obtain ⟨J, h1, h2⟩ := h
    exact ⟨fun vs => match vs with | [a, b, c, d] => J [a, b, c, d] | _ => no, fun vs w hl hJ => by
      match vs, hl with
      | [a, b, c, d], _ => exact h1 [a, b, c, d] w rfl hJ, h2⟩
  · obtain ⟨J, h1, h2⟩ := h
    exact ⟨fun vs => match vs with | [a, b, c, d, e] => J [a, b, c, d, e] | _ => no, fun vs w hl hJ => by
      match vs, hl with
      | [a, b, c, d, e], _ => exact h1 [a, b, c, d, e] w rfl hJ, h2⟩
  · exact h.elim
theorem loopE_out {n : Nat} {body : VK → VK} {vs : List Value} {w : World} (h : loopE n body vs w) : pLoopL n body vs w := by
  unfold loopE at h
  split at h
  · obtain ⟨I, μ, h1, h2⟩ := h
    refine ⟨fun vs => match vs with | [] => I [] | _ => no, μ, h1, fun vs w hl hI => ?_⟩
    match vs, hl with
    | [], _ =>
      have h3 := h2 [] w rfl hI
      have he : (fun (vs' : List Value) w' => (match (motive := List Value → World → Prop) vs' with | [] => I [] | _ => no) w' ∧ μ vs' w' < μ [] w) = (fun vs => match (motive := List Value → World → Prop) vs with | [] => (fun w' => I [] w' ∧ μ [] w' < μ [] w) | _ => no) := by
        funext vs' w'
        split
        · rfl
        · simp [no]
      rw [he]
      exact h3
  · obtain ⟨I, μ, h1, h2⟩ := h
    refine ⟨fun vs => match vs with | [a] => I [a] | _ => no, μ, h1, fun vs w hl hI => ?_⟩
    match vs, hl with
    | [a], _ =>
      have h3 := h2 [a] w rfl hI
      have he : (fun (vs' : List Value) w' => (match (motive := List Value → World → Prop) vs' with | [a'] => I [a'] | _ => no) w' ∧ μ vs' w' < μ [a] w) = (fun vs => match (motive := List Value → World → Prop) vs with | [a'] => (fun w' => I [a'] w' ∧ μ [a'] w' < μ [a] w) | _ => no) := by
        funext vs' w'
        split
        · rfl
        · simp [no]
      rw [he]
      exact h3
  · obtain ⟨I, μ, h1, h2⟩ := h
    refine ⟨fun vs => match vs with | [a, b] => I [a, b] | _ => no, μ, h1, fun vs w hl hI => ?_⟩
    match vs, hl with
    | [a, b], _ =>
      have h3 := h2 [a, b] w rfl hI
      have he : (fun (vs' : List Value) w' => (match (motive := List Value → World → Prop) vs' with | [a', b'] => I [a', b'] | _ => no) w' ∧ μ vs' w' < μ [a, b] w) = (fun vs => match (motive := List Value → World → Prop) vs with | [a', b'] => (fun w' => I [a', b'] w' ∧ μ [a', b'] w' < μ [a, b] w) | _ => no) := by
        funext vs' w'
        split
        · rfl
        · simp [no]
      rw [he]
      exact h3
  · obtain ⟨I, μ, h1, h2⟩ := h
    refine ⟨fun vs => match vs with | [a, b, c] => I [a, b, c] | _ => no, μ, h1, fun vs w hl hI => ?_⟩
    match vs, hl with
    | [a, b, c], _ =>
      have h3 := h2 [a, b, c] w rfl hI
      have he : (fun (vs' : List Value) w' => (match (motive := List Value → World → Prop) vs' with | [a', b', c'] => I [a', b', c'] | _ => no) w' ∧ μ vs' w' < μ [a, b, c] w) = (fun vs => match (motive := List Value → World → Prop) vs with | [a', b', c'] => (fun w' => I [a', b', c'] w' ∧ μ [a', b', c'] w' < μ [a, b, c] w) | _ => no) := by
        funext vs' w'
        split
        · rfl
        · simp [no]
      rw [he]
      exact h3
  · obtain ⟨I, μ, h1, h2⟩ := h
    refine ⟨fun vs => match vs with | [a, b, c, d] => I [a, b, c, d] | _ => no, μ, h1, fun vs w hl hI => ?_⟩
    match vs, hl with
    | [a, b, c, d], _ =>
      have h3 := h2 [a, b, c, d] w rfl hI
      have he : (fun (vs' : List Value) w' => (match (motive := List Value → World → Prop) vs' with | [a', b', c', d'] => I [a', b', c', d'] | _ => no) w' ∧ μ vs' w' < μ [a, b, c, d] w) = (fun vs => match (motive := List Value → World → Prop) vs with | [a', b', c', d'] => (fun w' => I [a', b', c', d'] w' ∧ μ [a', b', c', d'] w' < μ [a, b, c, d] w) | _ => no) := by
        funext vs' w'
        split
        · rfl
        · simp [no]
      rw [he]
      exact h3
  · obtain ⟨I, μ, h1, h2⟩ := h
    refine ⟨fun vs => match vs with | [a, b, c, d, e] => I [a, b, c, d, e] | _ => no, μ, h1, fun vs w hl hI => ?_⟩
    match vs, hl with
    | [a, b, c, d, e], _ =>
      have h3 := h2 [a, b, c, d, e] w rfl hI
      have he : (fun (vs' : List Value) w' => (match (motive := List Value → World → Prop) vs' with | [a', b', c', d', e'] => I [a', b', c', d', e'] | _ => no) w' ∧ μ vs' w' < μ [a, b, c, d, e] w) = (fun vs => match (motive := List Value → World → Prop) vs with | [a', b', c', d', e'] => (fun w' => I [a', b', c', d', e'] w' ∧ μ [a', b', c', d', e'] w' < μ [a, b, c, d, e] w) | _ => no) := by
        funext vs' w'
        split
        · rfl
        · simp [no]
      rw [he]
      exact h3
  · exact h.elim
theorem getAll_reads {e : Env} {a : Act} (hr : Rep e a) : ∀ {ts : List Nat} {vs : List Value}, getAll e ts = some vs → (ts.map fun t => a.tmps.getD t undef) = vs
  | [], vs, h => by simp [getAll] at h; simp [← h]
  | u :: ts, vs, h => by
    unfold getAll at h
    cases hu : e.get u with
    | none => rw [hu] at h; cases h
    | some x =>
      rw [hu] at h
      cases hts : getAll e ts with
      | none => rw [hts] at h; cases h
      | some xs =>
        rw [hts] at h
        cases h
        have := hr u x hu
        rw [List.map_cons, getAll_reads hr hts]
        simp [this]
/-- What is asked of the code's end. -/
def QE (Q : KE) (T : List Nat) (a0 : Act) : Exit → Act → World → Prop := fun x a w => ∃ e, Rep e a ∧ Kp T a0 a ∧ Q x e w
theorem tr_sound {P : Program} {ag : List Nat} {nt : Nat} {jh lh : Hints} (hm : P.follows .mixedOrders = true) : ∀ (c : Code) (Q : KE) (e : Env) (a : Act) (w : World),
    True → (∀ c e w, ¬ Q (.panic c) e w) → a.tmps.size = nt → Rep e a → tr P ag nt jh lh c Q e w → c.wp P (QE Q (asg c) a) a w
  | .skip, Q, e, a, w, ho, hp, hn, hr, h => wp_skip ⟨e, hr, Kp.refl _ _, h⟩
  | .ret, Q, e, a, w, ho, hp, hn, hr, h => wp_ret ⟨e, hr, Kp.refl _ _, h⟩
  | .exit id, Q, e, a, w, ho, hp, hn, hr, h => wp_exit ⟨e, hr, Kp.refl _ _, h⟩
  | .seq x y, Q, e, a, w, ho, hp, hn, hr, h => by
    have away : ∀ {N : Env → World → Prop} {R : Exit → Act → World → Prop}, (∀ e' a' w', Rep e' a' → Kp (asg x) a a' → N e' w' → R .normal a' w') →
        (∀ ex e' a' w', ex ≠ .normal → Rep e' a' → Kp (asg x) a a' → Q ex e' w' → R ex a' w') → ∀ ex a' w', QE (thenE N Q) (asg x) a ex a' w' → R ex a' w' := by
      intro N R h1 h2 ex a' w' hq
      obtain ⟨e', hr', hk', hq'⟩ := hq
      cases ex <;> first
        | exact h1 e' a' w' hr' hk' hq'
        | exact h2 _ e' a' w' (by simp) hr' hk' hq'
    have wide : ∀ {a' : Act}, Kp (asg x) a a' → Kp (asg x ++ asg y) a a' := fun hk => hk.mono fun t ht => List.mem_append_left _ ht
    unfold tr at h
    cases hj : jh.at (key y) with
    | none =>
      rw [hj] at h
      refine wp_seq (wp_mono (tr_sound hm x (thenE (tr P ag nt jh lh y Q) Q) e a w trivial (fun c e w => hp c e w) hn hr h) ?_)
      refine away (R := Exit.then (y.wp P (QE Q (asg x ++ asg y) a)) (QE Q (asg x ++ asg y) a)) ?_ ?_
      · intro e' a' w' hr' hk' hN
        refine wp_mono (tr_sound hm y Q e' a' w' ho hp (hk'.2.1.trans hn) hr' hN) ?_
        rintro ex a2 w2 ⟨e2, hr2, hk2, hq2⟩
        exact ⟨e2, hr2, hk'.trans hk2, hq2⟩
      · intro ex e' a' w' hne hr' hk' hq
        cases ex <;> first | exact absurd rfl hne | exact ⟨e', hr', wide hk', hq⟩
    | some ts =>
      rw [hj] at h
      obtain ⟨J, hJ, hA⟩ := joinE_out h
      refine wp_seq (wp_mono (tr_sound hm x (thenE (giveE ts J) Q) e a w trivial (fun c e w => hp c e w) hn hr hA) ?_)
      refine away (R := Exit.then (y.wp P (QE Q (asg x ++ asg y) a)) (QE Q (asg x ++ asg y) a)) ?_ ?_
      · intro e' a' w' hr' hk' hN
        unfold giveE at hN
        cases hg : getAll e' ts with
        | none => rw [hg] at hN; exact hN.elim
        | some vs =>
          rw [hg] at hN
          refine wp_mono (tr_sound hm y Q _ a' w' ho hp (hk'.2.1.trans hn) (hr.meet hr' hk' hg) (hJ vs w' (getAll_length hg) hN)) ?_
          rintro ex a2 w2 ⟨e2, hr2, hk2, hq2⟩
          exact ⟨e2, hr2, hk'.trans hk2, hq2⟩
      · intro ex e' a' w' hne hr' hk' hq
        cases ex <;> first | exact absurd rfl hne | exact ⟨e', hr', wide hk', hq⟩
  | .cond c x y, Q, e, a, w, ho, hp, hn, hr, h => by
    unfold tr at h
    cases hc : ev e c with
    | none => rw [hc] at h; exact h.elim
    | some v =>
      rw [hc] at h
      have he := ev_sound hr hc
      unfold pIf at h
      cases v with
      | bool b =>
        cases b with
        | true =>
          refine wp_cond_true he (wp_mono (tr_sound hm x Q e a w ho hp hn hr h) ?_)
          rintro ex a2 w2 ⟨e2, hr2, hk2, hq2⟩
          exact ⟨e2, hr2, hk2.mono fun t ht => List.mem_append_left _ ht, hq2⟩
        | false =>
          refine wp_cond_false he (wp_mono (tr_sound hm y Q e a w ho hp hn hr h) ?_)
          rintro ex a2 w2 ⟨e2, hr2, hk2, hq2⟩
          exact ⟨e2, hr2, hk2.mono fun t ht => List.mem_append_right _ ht, hq2⟩
      | _ => exact h.elim
  | .block id c, Q, e, a, w, ho, hp, hn, hr, h => by
    unfold tr at h
    refine wp_block (wp_mono (tr_sound hm c (blockE id Q) e a w trivial (fun c e w => hp c e w) hn hr h) ?_)
    rintro ex a2 w2 ⟨e2, hr2, hk2, hq2⟩
    cases ex with
    | exit i =>
      simp only [blockE] at hq2
      simp only [Exit.inBlock]
      cases hb : Nat.beq i id with
      | true =>
        rw [hb] at hq2
        rw [if_pos (Nat.eq_of_beq_eq_true hb)]
        exact ⟨e2, hr2, hk2, hq2⟩
      | false =>
        rw [hb] at hq2
        rw [if_neg (Nat.ne_of_beq_eq_false hb)]
        exact ⟨e2, hr2, hk2, hq2⟩
    | _ => exact ⟨e2, hr2, hk2, hq2⟩
  | .loop c, Q, e, a, w, ho, hp, hn, hr, h => by
    unfold tr at h
    cases hl : lh.at (keyL c) with
    | none => rw [hl] at h; exact h.elim
    | some ts =>
      rw [hl] at h
      simp only at h
      cases hg : getAll e ts with
      | none => rw [hg] at h; exact h.elim
      | some vs0 =>
        rw [hg] at h
        obtain ⟨I, μ, h0, hround⟩ := loopE_out h
        -- the frame at each round's head
        refine wp_mono (Q := fun ex a' w' => QE Q (asg c) a ex a' w') (wp_loop (Q := QE Q (asg c) a)
          (fun a' w' => ∃ vs e', getAll e' ts = some vs ∧ Rep e' a' ∧ Kp (asg c) a a' ∧ I vs w')
          (fun a' w' => μ (ts.map fun t => a'.tmps.getD t undef) w') ⟨vs0, e, hg, hr, Kp.refl _ _, h0⟩ ?_) (fun _ _ _ h => h)
        rintro a' w' ⟨vs, e', hg', hr', hk', hI⟩
        have hl := getAll_length hg'
        have hb := hround vs w' hl hI
        refine wp_mono (tr_sound hm c (thenE (giveE ts fun vs' w2 => I vs' w2 ∧ μ vs' w2 < μ vs w') Q) _ a' w' trivial (fun c e w => hp c e w) (hk'.2.1.trans hn) (hr.meet hr' hk' hg') hb) ?_
        rintro ex a2 w2 ⟨e2, hr2, hk2, hq2⟩
        have hk3 : Kp (asg c) a a2 := (hk'.trans hk2).mono fun t ht => (List.mem_append.1 ht).elim id id
        cases ex with
        | normal =>
          unfold thenE giveE at hq2
          cases hg2 : getAll e2 ts with
          | none => simp only [hg2] at hq2; exact hq2.elim
          | some vs2 =>
            simp only [hg2] at hq2
            refine ⟨⟨vs2, e2, hg2, hr2, hk3, hq2.1⟩, ?_⟩
            rw [getAll_reads hr2 hg2, getAll_reads hr' hg']
            exact hq2.2
        | _ => exact ⟨e2, hr2, hk3, hq2⟩
  | .region id ops false, Q, e, a, w, ho, hp, hn, hr, h => by
    unfold tr at h
    refine wp_region_list (regE_sound (K := Q .normal) trivial ops.toList 0 [] e a w (by simp) (fun _ hp => (by cases hp)) hr hn ?_ h)
    intro e' a' w' hr' hk' hq
    exact ⟨e', hr', hk', hq⟩
  | .region id ops true, Q, e, a, w, ho, hp, hn, hr, h => by
    unfold tr at h
    cases hs : Region.noSelect ops with
    | false => rw [hs] at h; exact h.elim
    | true =>
      rw [hs] at h
      obtain ⟨S, hS, hB⟩ := h
      refine wp_region_any hm (wpAny_of_K _ _ _ _ (drawE_sound (S := S) (K := Q .normal) trivial hs ?_ (T := dsts ops.toList) ?_ ?_ ops.size _ true true [] e a _ (Closed.none _ _) (fun _ hp => (by cases hp)) hr hn (Kp.refl _ _) (fun _ => hS) hB))
      · rintro c a1 a2 w1 ⟨e1, _, _, hq⟩
        exact (hp c e1 w1 hq).elim
      · intro i o hi t ht
        have hmem : o ∈ ops.toList := by simpa using Array.mem_of_getElem? hi
        clear hB hS hs hi
        generalize ops.toList = l at hmem ⊢
        induction l with
        | nil => cases hmem
        | cons x l ih =>
          unfold dsts
          rcases List.mem_cons.1 hmem with rfl | h'
          · exact List.mem_append_left _ ht
          · exact List.mem_append_right _ (ih h')
      · intro e' a' w' hr' hk' hq
        exact ⟨e', hr', hk', hq⟩
  | .scope _, _, _, _, _, _, _, _, _, h => by unfold tr at h; exact h.elim
  | .label _, _, _, _, _, _, _, _, _, h => by unfold tr at h; exact h.elim
  | .goto _, _, _, _, _, _, _, _, _, h => by unfold tr at h; exact h.elim
  | .refuse _, _, _, _, _, _, _, _, _, h => by unfold tr at h; exact h.elim
  | .rangeFunc .., _, _, _, _, _, _, _, _, h => by unfold tr at h; exact h.elim
/-- A result that stands in memory. -/
def pRes (P : Program) (t : TypeId) (v : Value) (K : Value → World → Prop) : World → Prop := fun w =>
  ∃ x, (Instr.loadAt t v).run P w = .ok x w ∧ K x w
def resE (P : Program) : List ResultVar → Env → (List Value → World → Prop) → World → Prop
  | [], _, K => K []
  | .tmp t :: l, e, K => match e.get t with
    | some v => resE P l e fun vs => K (v :: vs)
    | none => no
  | .cell t ty :: l, e, K => match e.get t with
    | some v => pRes P ty v fun x => resE P l e fun vs => K (x :: vs)
    | none => no
def tupE (R : Value → World → Prop) : List Value → World → Prop
  | [v] => R v
  | vs => R (.tuple vs.toArray)
def endE (P : Program) (rs : List ResultVar) (R : Value → World → Prop) : KE
  | .normal, e => resE P rs e (tupE R)
  | .ret, e => resE P rs e (tupE R)
  | _, _ => no
def parE : Nat → List Value → Env
  | _, [] => []
  | n, v :: vs => (n, v) :: parE (n + 1) vs
def trF (P : Program) (ag : List Nat) (jh lh : Hints) (fn : Func) (args : List Value) (R : Value → World → Prop) : World → Prop :=
  match fn.body with
  | some c => match Nat.ble args.length fn.ntmps with
    | true => tr P ag fn.ntmps jh lh c (endE P fn.results.toList R) (parE 0 args)
    | false => no
  | none => no
theorem get_parE {t : Nat} {v : Value} : ∀ {vs : List Value} {n : Nat}, (parE n vs).get t = some v → n ≤ t ∧ vs[t - n]? = some v
  | [], n, h => by simp [parE, Env.get] at h
  | u :: vs, n, h => by
    unfold parE Env.get at h
    cases hb : Nat.beq n t with
    | true =>
      rw [hb] at h
      have := Nat.eq_of_beq_eq_true hb
      subst this
      cases h
      simp
    | false =>
      rw [hb] at h
      obtain ⟨h1, h2⟩ := get_parE h
      refine ⟨by omega, ?_⟩
      rw [show t - n = (t - (n + 1)) + 1 from by omega, List.getElem?_cons_succ]
      exact h2
theorem loadVar_as (t : TypeId) (v : Value) (x : Value) (P : Program) (w : World) (h : (Instr.loadAt t v).run P w = .ok x w) :
    (do loadVar t (← asAddr v) : Sem Value).run P w = .ok x w := by
  unfold Instr.loadAt at h
  cases v with
  | pointer a =>
    cases a with
    | none => simp [Instr.sureAddr] at h
    | some a => simpa [Instr.sureAddr, asAddr] using h
  | _ => simp [Instr.sureAddr] at h
def resSem (tmps : Array Value) : ResultVar → Sem Value
  | .tmp t => pure (tmps.getD t undef)
  | .cell a t => do loadVar t (← asAddr (tmps.getD a undef))
theorem resE_sound {P : Program} {a : Act} {e : Env} (hr : Rep e a) : ∀ (l : List ResultVar) {K : List Value → World → Prop} {w : World}, resE P l e K w →
    ∃ vs, (l.mapM (resSem a.tmps)).run P w = .ok vs w ∧ K vs w
  | [], K, w, h => ⟨[], by simp, h⟩
  | .tmp t :: l, K, w, h => by
    unfold resE at h
    cases hg : e.get t with
    | none => rw [hg] at h; exact h.elim
    | some v =>
      rw [hg] at h
      obtain ⟨vs, h1, h2⟩ := resE_sound hr l h
      refine ⟨v :: vs, ?_, h2⟩
      have := hr t v hg
      simp [List.mapM_cons, resSem, this, h1]
  | .cell t ty :: l, K, w, h => by
    unfold resE at h
    cases hg : e.get t with
    | none => rw [hg] at h; exact h.elim
    | some v =>
      rw [hg] at h
      obtain ⟨x, hx, h⟩ := h
      obtain ⟨vs, h1, h2⟩ := resE_sound hr l h
      refine ⟨x :: vs, ?_, h2⟩
      have ht := hr t v hg
      have := loadVar_as ty v x P w hx
      have e1 : a.tmps.getD t undef = v := by simp [ht]
      rw [List.mapM_cons, Sem.run_bind]
      simp only [resSem, e1, this, Result.andThen_ok, Sem.run_bind, h1, Sem.run_pure]
theorem results_run {P : Program} {fn : Func} {a : Act} {e : Env} {w : World} {R : Value → World → Prop} (hr : Rep e a) (h : resE P fn.results.toList e (tupE R) w) :
    ∃ v, (results fn a.tmps).run P w = .ok v w ∧ R v w := by
  obtain ⟨vs, h1, h2⟩ := resE_sound hr _ h
  have hm : (fn.results.mapM (resSem a.tmps)).run P w = .ok vs.toArray w := by
    have : fn.results.mapM (resSem a.tmps) = (do return (← fn.results.toList.mapM (resSem a.tmps)).toArray) := by
      rw [Array.mapM_eq_mapM_toList]; rfl
    rw [this]; simp [h1]
  have hres : (results fn a.tmps).run P w = .ok (if h : vs.toArray.size = 1 then vs.toArray[0] else .tuple vs.toArray) w := by
    have : results fn a.tmps = (do let vs ← fn.results.mapM (resSem a.tmps); pure (if h : vs.size = 1 then vs[0] else .tuple vs)) := by
      unfold results
      congr 1
    rw [this, Sem.run_bind, hm]
    rfl
  refine ⟨_, hres, ?_⟩
  unfold tupE at h2
  split at h2
  · simpa using h2
  · rename_i hne
    have : ¬ vs.toArray.size = 1 := by
      intro hs
      obtain ⟨v, hv⟩ : ∃ v, vs = [v] := List.length_eq_one_iff.1 (by simpa using hs)
      exact hne v hv
    rw [dif_neg this]
    exact h2
/-- What is made of a function's code implies what is asked of its call. -/
theorem trF_sound {P : Program} {ag : List Nat} {jh lh : Hints} (hm : P.follows .mixedOrders = true) {f : FuncId} {fn : Func} (hf : P.funcs[f]? = some fn) {args : List Value} {R : Value → World → Prop} {w : World}
    (h : trF P ag jh lh fn args R w) : Calls P f args.toArray w (retK R) := by
  unfold trF at h
  cases hb : fn.body with
  | none => rw [hb] at h; exact h.elim
  | some c =>
    rw [hb] at h
    simp only at h
    cases hl : Nat.ble args.length fn.ntmps with
    | false => rw [hl] at h; exact h.elim
    | true =>
      rw [hl] at h
      have hl' : args.length ≤ fn.ntmps := Nat.le_of_ble_eq_true hl
      refine calls_of_wp hf hb ?_
      have hsz : (args.toArray ++ Array.replicate (fn.ntmps - args.toArray.size) undef).size = fn.ntmps := by simp; omega
      refine wp_mono (tr_sound hm c (endE P fn.results.toList R) (parE 0 args) _ w trivial (fun _ _ _ h => h) hsz ?_ h) ?_
      · intro t v ht
        obtain ⟨_, h2⟩ := get_parE ht
        simp only [Nat.sub_zero] at h2
        have hlt : t < args.length := (List.getElem?_eq_some_iff.1 h2).1
        rw [Array.getElem?_append_left (by simpa using hlt)]
        simpa using h2
      · rintro ex a' w' ⟨e', hr', hk', hq⟩
        cases ex with
        | normal =>
          obtain ⟨v, h1, h2⟩ := results_run hr' hq
          exact ⟨hk'.1, v, h1, h2⟩
        | ret =>
          obtain ⟨v, h1, h2⟩ := results_run hr' hq
          exact ⟨hk'.1, v, h1, h2⟩
        | outgrown => exact hq.elim
        | panic c => exact hq.elim
        | exit i => exact hq.elim
        | goto l => exact hq.elim
/-- The same, of a call that was deferred. -/
theorem trF_soundD {P : Program} {ag : List Nat} {jh lh : Hints} (hm : P.follows .mixedOrders = true) {f : FuncId} {fn : Func} (hf : P.funcs[f]? = some fn) {args : List Value} {R : Value → World → Prop} {w : World} {u : FrameMode}
    (h : trF P ag jh lh fn args R w) : CallsD P f args.toArray u w (fun e u' w' => u' = u ∧ retK R e w') := by
  unfold trF at h
  cases hb : fn.body with
  | none => rw [hb] at h; exact h.elim
  | some c =>
    rw [hb] at h
    simp only at h
    cases hl : Nat.ble args.length fn.ntmps with
    | false => rw [hl] at h; exact h.elim
    | true =>
      rw [hl] at h
      have hl' : args.length ≤ fn.ntmps := Nat.le_of_ble_eq_true hl
      refine callsD_of_wp hf hb ?_
      have hsz : (args.toArray ++ Array.replicate (fn.ntmps - args.toArray.size) undef).size = fn.ntmps := by simp; omega
      refine wp_mono (tr_sound hm c (endE P fn.results.toList R) (parE 0 args) _ w trivial (fun _ _ _ h => h) hsz ?_ h) ?_
      · intro t v ht
        obtain ⟨_, h2⟩ := get_parE ht
        simp only [Nat.sub_zero] at h2
        have hlt : t < args.length := (List.getElem?_eq_some_iff.1 h2).1
        rw [Array.getElem?_append_left (by simpa using hlt)]
        simpa using h2
      · rintro ex a' w' ⟨e', hr', hk', hq⟩
        cases ex with
        | normal =>
          obtain ⟨v, h1, h2⟩ := results_run hr' hq
          exact ⟨hk'.1, v, h1, h2⟩
        | ret =>
          obtain ⟨v, h1, h2⟩ := results_run hr' hq
          exact ⟨hk'.1, v, h1, h2⟩
        | outgrown => exact hq.elim
        | panic c => exact hq.elim
        | exit i => exact hq.elim
        | goto l => exact hq.elim
theorem pCall_of {P : Program} {ag : List Nat} {jh lh : Hints} (hm : P.follows .mixedOrders = true) {f : FuncId} {fn : Func} (hf : P.funcs[f]? = some fn) (hb : hasBody P f = true) {args : List Value}
    {G : World → Prop} {R : Value → World → Prop} {w : World} (he : trF P ag jh lh fn args R = G) (h : G w) : pCall P f args R w :=
  ⟨hb, trF_sound hm hf (he ▸ h)⟩
attribute [irreducible] pVal pLd pSt pNew pAlloc pRow pRun pDo pRoom pCall pCallV pExt pIf pGuard pPick pNil pHld pHold pPure pDraw pKeep pAnd no pRes
attribute [irreducible] pJoin0 pJoin1 pJoin2 pJoin3 pJoin4 pJoin5 pLoop0 pLoop1 pLoop2 pLoop3 pLoop4 pLoop5
attribute [irreducible] hasBody trF
end Go.Al

namespace Go.Al
open Go
section
variable {P : Program}
@[simp] theorem pVal_some (v : Value) (K : Value → World → Prop) : pVal (some v) K = K v := by unfold pVal; rfl
@[simp] theorem pIf_bool (b : Bool) (A B : World → Prop) (w : World) : pIf (.bool b) A B w = if b = true then A w else B w := by unfold pIf; cases b <;> rfl
@[simp] theorem pGuard_true (b : Bool) (A B : World → Prop) (w : World) : pGuard (.bool b) true A B w = if b = true then A w else B w := by unfold pGuard; cases b <;> rfl
@[simp] theorem pGuard_false (b : Bool) (A B : World → Prop) (w : World) : pGuard (.bool b) false A B w = if b = true then B w else A w := by unfold pGuard; cases b <;> rfl
@[simp] theorem pPick_bool (b : Bool) (x y : Value) (K : Value → World → Prop) (w : World) : pPick (.bool b) x y K w = if b = true then K x w else K y w := by unfold pPick; cases b <;> rfl
@[simp] theorem pNil_ptr (a : Addr) (K : Value → World → Prop) : pNil (.pointer (some a)) K = K (.pointer (some a)) := by unfold pNil; rfl
@[simp] theorem pNil_func (f : FuncId) (x y : Array Value) (K : Value → World → Prop) : pNil (.func (.func f) x y) K = K (.func (.func f) x y) := by unfold pNil; rfl
theorem pNew_app (t : TypeId) (v : Value) (K : Value → World → Prop) (w : World) : pNew t v K w = K (.pointer (some ⟨w.heap.size, 0, none⟩)) (w.alloc (.cells v.cells t)) := by unfold pNew; rfl
@[simp] theorem pKeep_true (S K : World → Prop) (w : World) : pKeep true S K w = (S w ∧ K w) := by unfold pKeep; rfl
@[simp] theorem pKeep_false (S K : World → Prop) : pKeep false S K = K := by unfold pKeep; rfl
@[simp] theorem pAnd_app (A B : World → Prop) (w : World) : pAnd A B w = (A w ∧ B w) := by unfold pAnd; rfl
@[simp] theorem no_app (w : World) : no w = False := by unfold no; rfl
theorem pLd_app (t : TypeId) (x : Value) (K : Value → World → Prop) (w : World) : pLd P t x K w = match rd P t w x with | some v => K v w | none => False := by unfold pLd; rfl
theorem pLd_of {t : TypeId} {x v : Value} {K : Value → World → Prop} {w : World} (h : rd P t w x = some v) (k : K v w) : pLd P t x K w := by unfold pLd; rw [h]; exact k
theorem pSt_of {t : TypeId} {x v : Value} {K : World → Prop} {w w' : World} (h : wr P t w x v = some w') (k : K w') : pSt P t x v K w := by unfold pSt; rw [h]; exact k
theorem pHld_of {S : World → Prop} {t : TypeId} {x v : Value} {K : Value → World → Prop} {w : World} (h : ∀ w', S w' → rd P t w' x = some v) (k : K v w) : pHld P S t x K w := by unfold pHld; exact ⟨v, h, k⟩
theorem pDraw_of (S : World → Prop) {B : (World → Prop) → World → Prop} {w : World} (h : S w.drew) (k : B S w.drew) : pDraw B w := by unfold pDraw; exact ⟨S, h, k⟩
theorem pAlloc_app {t : TypeId} {z : Value} (h : zeroP P t = some z) (K : Value → World → Prop) (w : World) : pAlloc P t K w = K (.pointer (some ⟨w.heap.size, 0, none⟩)) (w.alloc (.cells z.cells t)) := by
  unfold pAlloc; rw [h]; unfold pNew; rfl
theorem pJoin0_of {A : (World → Prop) → World → Prop} {rest : World → Prop} {w : World} (J : World → Prop) (h : ∀ w, J w → rest w) (k : A J w) : pJoin0 A rest w := by
  unfold pJoin0
  exact ⟨fun vs => match vs with | [] => J | _ => no, fun vs w hl hJ => (by match vs, hl with | [], _ => exact h w hJ), k⟩
theorem pJoin0_in {A : (World → Prop) → World → Prop} {rest : World → Prop} {w : World} (k : A rest w) : pJoin0 A rest w := pJoin0_of rest (fun _ h => h) k
theorem pJoin1_of {A : (Value → World → Prop) → World → Prop} {rest : Value → World → Prop} {w : World} (J : Value → World → Prop) (h : ∀ a w, J a w → rest a w) (k : A J w) : pJoin1 A rest w := by
  unfold pJoin1
  exact ⟨fun vs => match vs with | [a] => J a | _ => no, fun vs w hl hJ => (by match vs, hl with | [a], _ => exact h a w hJ), k⟩
theorem pJoin1_in {A : (Value → World → Prop) → World → Prop} {rest : Value → World → Prop} {w : World} (k : A rest w) : pJoin1 A rest w := pJoin1_of rest (fun _ _ h => h) k
theorem pJoin2_of {A : (Value → Value → World → Prop) → World → Prop} {rest : Value → Value → World → Prop} {w : World} (J : Value → Value → World → Prop) (h : ∀ a b w, J a b w → rest a b w) (k : A J w) : pJoin2 A rest w := by
  unfold pJoin2
  exact ⟨fun vs => match vs with | [a, b] => J a b | _ => no, fun vs w hl hJ => (by match vs, hl with | [a, b], _ => exact h a b w hJ), k⟩
theorem pJoin2_in {A : (Value → Value → World → Prop) → World → Prop} {rest : Value → Value → World → Prop} {w : World} (k : A rest w) : pJoin2 A rest w := pJoin2_of rest (fun _ _ _ h => h) k
theorem pLoop0_of {body : (World → Prop) → World → Prop} {w : World} (I : World → Prop) (μ : World → Nat) (h : I w)
    (k : ∀ w, I w → body (fun w' => I w' ∧ μ w' < μ w) w) : pLoop0 body w := by
  unfold pLoop0
  exact ⟨fun vs => match vs with | [] => I | _ => no, fun _ w => μ w, h, fun vs w hl hI => (by match vs, hl with | [], _ => exact k w hI)⟩
theorem pLoop1_of {body : (Value → World → Prop) → Value → World → Prop} {x : Value} {w : World} (I : Value → World → Prop) (μ : Value → World → Nat) (h : I x w)
    (k : ∀ a w, I a w → body (fun a' w' => I a' w' ∧ μ a' w' < μ a w) a w) : pLoop1 body x w := by
  unfold pLoop1
  exact ⟨fun vs => match vs with | [a] => I a | _ => no, fun vs w => match vs with | [a] => μ a w | _ => 0, h, fun vs w hl hI => (by match vs, hl with | [a], _ => exact k a w hI)⟩
theorem pLoop2_of {body : (Value → Value → World → Prop) → Value → Value → World → Prop} {x y : Value} {w : World} (I : Value → Value → World → Prop) (μ : Value → Value → World → Nat) (h : I x y w)
    (k : ∀ a b w, I a b w → body (fun a' b' w' => I a' b' w' ∧ μ a' b' w' < μ a b w) a b w) : pLoop2 body x y w := by
  unfold pLoop2
  exact ⟨fun vs => match vs with | [a, b] => I a b | _ => no, fun vs w => match vs with | [a, b] => μ a b w | _ => 0, h, fun vs w hl hI => (by match vs, hl with | [a, b], _ => exact k a b w hI)⟩
theorem pLoop3_of {body : (Value → Value → Value → World → Prop) → Value → Value → Value → World → Prop} {x y z : Value} {w : World} (I : Value → Value → Value → World → Prop) (μ : Value → Value → Value → World → Nat) (h : I x y z w)
    (k : ∀ a b c w, I a b c w → body (fun a' b' c' w' => I a' b' c' w' ∧ μ a' b' c' w' < μ a b c w) a b c w) : pLoop3 body x y z w := by
  unfold pLoop3
  exact ⟨fun vs => match vs with | [a, b, c] => I a b c | _ => no, fun vs w => match vs with | [a, b, c] => μ a b c w | _ => 0, h, fun vs w hl hI => (by match vs, hl with | [a, b, c], _ => exact k a b c w hI)⟩
theorem pLoop4_of {body : (Value → Value → Value → Value → World → Prop) → Value → Value → Value → Value → World → Prop} {x y z u : Value} {w : World} (I : Value → Value → Value → Value → World → Prop) (μ : Value → Value → Value → Value → World → Nat) (h : I x y z u w)
    (k : ∀ a b c d w, I a b c d w → body (fun a' b' c' d' w' => I a' b' c' d' w' ∧ μ a' b' c' d' w' < μ a b c d w) a b c d w) : pLoop4 body x y z u w := by
  unfold pLoop4
  exact ⟨fun vs => match vs with | [a, b, c, d] => I a b c d | _ => no, fun vs w => match vs with | [a, b, c, d] => μ a b c d w | _ => 0, h, fun vs w hl hI => (by match vs, hl with | [a, b, c, d], _ => exact k a b c d w hI)⟩
theorem pLoop5_of {body : (Value → Value → Value → Value → Value → World → Prop) → Value → Value → Value → Value → Value → World → Prop} {x y z u t : Value} {w : World} (I : Value → Value → Value → Value → Value → World → Prop) (μ : Value → Value → Value → Value → Value → World → Nat) (h : I x y z u t w)
    (k : ∀ a b c d e w, I a b c d e w → body (fun a' b' c' d' e' w' => I a' b' c' d' e' w' ∧ μ a' b' c' d' e' w' < μ a b c d e w) a b c d e w) : pLoop5 body x y z u t w := by
  unfold pLoop5
  exact ⟨fun vs => match vs with | [a, b, c, d, e] => I a b c d e | _ => no, fun vs w => match vs with | [a, b, c, d, e] => μ a b c d e w | _ => 0, h, fun vs w hl hI => (by match vs, hl with | [a, b, c, d, e], _ => exact k a b c d e w hI)⟩
@[simp] theorem binV_add (t : TypeId) (k : IntKind) (a b : Int) : binV P .add t (.int k a) (.int k b) = some (.int k (k.wrap (a + b))) := by simp [binV, intV]
@[simp] theorem binV_sub (t : TypeId) (k : IntKind) (a b : Int) : binV P .sub t (.int k a) (.int k b) = some (.int k (k.wrap (a - b))) := by simp [binV, intV]
@[simp] theorem binV_mul (t : TypeId) (k : IntKind) (a b : Int) : binV P .mul t (.int k a) (.int k b) = some (.int k (k.wrap (a * b))) := by simp [binV, intV]
@[simp] theorem binV_eql (t : TypeId) (k : IntKind) (a b : Int) : binV P .eql t (.int k a) (.int k b) = some (.bool (decide (a = b))) := by simp [binV, intV]; rw [Bool.eq_iff_iff]; simp
@[simp] theorem binV_neq (t : TypeId) (k : IntKind) (a b : Int) : binV P .neq t (.int k a) (.int k b) = some (.bool (!decide (a = b))) := by simp [binV, intV, bne]; rw [Bool.eq_iff_iff]; simp
@[simp] theorem binV_lss (t : TypeId) (k : IntKind) (a b : Int) : binV P .lss t (.int k a) (.int k b) = some (.bool (decide (a < b))) := by simp [binV, intV]
@[simp] theorem binV_leq (t : TypeId) (k : IntKind) (a b : Int) : binV P .leq t (.int k a) (.int k b) = some (.bool (decide (a ≤ b))) := by simp [binV, intV]
@[simp] theorem binV_gtr (t : TypeId) (k : IntKind) (a b : Int) : binV P .gtr t (.int k a) (.int k b) = some (.bool (decide (b < a))) := by simp [binV, intV]
@[simp] theorem binV_geq (t : TypeId) (k : IntKind) (a b : Int) : binV P .geq t (.int k a) (.int k b) = some (.bool (decide (b ≤ a))) := by simp [binV, intV]
theorem binV_quo (t : TypeId) (k : IntKind) (a b : Int) (h : b ≠ 0) : binV P .quo t (.int k a) (.int k b) = some (.int k (k.wrap (a.tdiv b))) := by simp [binV, intV, h]
theorem binV_rem (t : TypeId) (k : IntKind) (a b : Int) (h : b ≠ 0) : binV P .rem t (.int k a) (.int k b) = some (.int k (a.tmod b)) := by simp [binV, intV, h]
theorem binV_str_eql (t : TypeId) (a b : ByteArray) : binV P .eql t (.string a) (.string b) = some (.bool (a.toList == b.toList)) := rfl
theorem binV_str_neq (t : TypeId) (a b : ByteArray) : binV P .neq t (.string a) (.string b) = some (.bool !(a.toList == b.toList)) := rfl
theorem binV_bool_eql {t : TypeId} (h : kindP P t = 1) (a b : Bool) : binV P .eql t (.bool a) (.bool b) = some (.bool (a == b)) := by simp [binV, h, cmpV]
theorem binV_bool_neq {t : TypeId} (h : kindP P t = 1) (a b : Bool) : binV P .neq t (.bool a) (.bool b) = some (.bool !(a == b)) := by simp [binV, h, cmpV]
theorem binV_ptr_eql {t : TypeId} (h : kindP P t = 4) (a : Option Addr) : binV P .eql t (.pointer a) (.pointer none) = some (.bool a.isNone) := by simp [binV, h, cmpV]
theorem binV_ptr_neq {t : TypeId} (h : kindP P t = 4) (a : Option Addr) : binV P .neq t (.pointer a) (.pointer none) = some (.bool !a.isNone) := by simp [binV, h, cmpV]
theorem binV_slice_eql {t : TypeId} (h : kindP P t = 5) (a : Option Addr) (l c l' c' : Nat) : binV P .eql t (.slice a l c) (.slice none l' c') = some (.bool a.isNone) := by simp [binV, h, cmpV]
theorem binV_slice_neq {t : TypeId} (h : kindP P t = 5) (a : Option Addr) (l c l' c' : Nat) : binV P .neq t (.slice a l c) (.slice none l' c') = some (.bool !a.isNone) := by simp [binV, h, cmpV]
theorem binV_func_eql {t : TypeId} (h : kindP P t = 7) (f : Fn) (a c : Array Value) : binV P .eql t (.func f a c) .nilFunc = some (.bool false) := by simp [binV, h, cmpV]
theorem binV_func_neq {t : TypeId} (h : kindP P t = 7) (f : Fn) (a c : Array Value) : binV P .neq t (.func f a c) .nilFunc = some (.bool true) := by simp [binV, h, cmpV]
theorem binV_func_eql0 {t : TypeId} (h : kindP P t = 7) : binV P .eql t .nilFunc .nilFunc = some (.bool true) := by simp [binV, h, cmpV]
theorem binV_func_neq0 {t : TypeId} (h : kindP P t = 7) : binV P .neq t .nilFunc .nilFunc = some (.bool false) := by simp [binV, h, cmpV]
@[simp] theorem unV_not (b : Bool) : unV .not (.bool b) = some (.bool !b) := rfl
@[simp] theorem unV_neg (k : IntKind) (n : Int) : unV .neg (.int k n) = some (.int k (k.wrap (0 - n))) := rfl
@[simp] theorem extractV_tuple (vs : Array Value) (i : Nat) : extractV (.tuple vs) i = vs[i]? := rfl
@[simp] theorem min2_int (k k' : IntKind) (a b : Int) : minV [.int k a, .int k' b] = some (.int k (if b < a then b else a)) := rfl
@[simp] theorem max2_int (k k' : IntKind) (a b : Int) : maxV [.int k a, .int k' b] = some (.int k (if b > a then b else a)) := rfl
@[simp] theorem min3_int (k k' k'' : IntKind) (a b c : Int) : minV [.int k a, .int k' b, .int k'' c] = some (.int k (if c < (if b < a then b else a) then c else (if b < a then b else a))) := rfl
@[simp] theorem max3_int (k k' k'' : IntKind) (a b c : Int) : maxV [.int k a, .int k' b, .int k'' c] = some (.int k (if c > (if b > a then b else a) then c else (if b > a then b else a))) := rfl
theorem lenBV_slice {t : TypeId} (h : kindP P t = 5) (a : Option Addr) (n c : Nat) : lenBV P #[t] [.slice a n c] = some (.int .i64 n) := by simp [lenBV, lenV, h]
theorem lenBV_string {t : TypeId} (h : kindP P t = 3) (s : ByteArray) : lenBV P #[t] [.string s] = some (.int .i64 s.size) := by simp [lenBV, lenV, h]
theorem wrap_in {x : Int} (h1 : -9223372036854775808 ≤ x) (h2 : x ≤ 9223372036854775807) : IntKind.i64.wrap x = x := by
  rw [IntKind.wrap_i64]; omega
def buildW (o : Option (List Value × List (Nat × Nat))) (a : Option (List Value × Nat)) (parts : List (Nat × Value)) : Option Value :=
  match o with
  | some (z, pl) => aggV (fillL pl z parts)
  | none => match a with
    | some (z, n) => aggV (fillA n z parts)
    | none => none
theorem buildV_app (t : TypeId) (parts : List (Nat × Value)) : buildV P t parts = buildW (bldP P t) (arrP P t) parts := by unfold buildV buildW; rfl
@[simp] theorem buildW_some (z : List Value) (pl : List (Nat × Nat)) (a : Option (List Value × Nat)) (parts : List (Nat × Value)) : buildW (some (z, pl)) a parts = aggV (fillL pl z parts) := rfl
@[simp] theorem buildW_arr (z : List Value) (n : Nat) (parts : List (Nat × Value)) : buildW none (some (z, n)) parts = aggV (fillA n z parts) := rfl
@[simp] theorem aggV_some (l : List Value) : aggV (some l) = some (.agg l.toArray) := rfl
@[simp] theorem cells_int (k : IntKind) (n : Int) : (Value.int k n).cells = #[.int k n] := rfl
@[simp] theorem cells_bool (b : Bool) : (Value.bool b).cells = #[.bool b] := rfl
@[simp] theorem cells_string (b : ByteArray) : (Value.string b).cells = #[.string b] := rfl
@[simp] theorem cells_slice (a : Option Addr) (n c : Nat) : (Value.slice a n c).cells = #[.slice a n c] := rfl
@[simp] theorem cells_pointer (a : Option Addr) : (Value.pointer a).cells = #[.pointer a] := rfl
@[simp] theorem cells_agg (a : Array Value) : (Value.agg a).cells = a := rfl
@[simp] theorem heap_drew (w : World) : w.drew.heap = w.heap := rfl
theorem heap_alloc_new (w : World) (o : Obj) : (w.alloc o).heap[w.heap.size]? = some o := by unfold World.alloc; simp only; rw [Array.getElem?_push]; simp
theorem heap_alloc_old (w : World) (o : Obj) {b : Nat} (h : b < w.heap.size) : (w.alloc o).heap[b]? = w.heap[b]? := by
  simp only [World.alloc]; rw [Array.getElem?_push]; simp [Nat.ne_of_lt h]
end
end Go.Al

namespace Go.Al
open Go
section
variable {P : Program}
abbrev ptr (b o : Nat) : Value := .pointer (some ⟨b, o, none⟩)
abbrev i64 (n : Int) : Value := .int .i64 n
/-- Block b is this row of cells. -/
def Blk (w : World) (b : Nat) (T : TypeId) (l : List Value) : Prop := ∃ f, w.heap[b]? = some (.cells l.toArray T f) ∧ Thaw f l.length
theorem Blk.lt {w : World} {b : Nat} {T : TypeId} {l : List Value} (h : Blk w b T l) : b < w.heap.size := by
  obtain ⟨f, h, _⟩ := h; exact (Array.getElem?_eq_some_iff.1 h).1
theorem Blk.inj {w : World} {b : Nat} {T T' : TypeId} {l l' : List Value} (h : Blk w b T l) (h' : Blk w b T' l') : T = T' ∧ l = l' := by
  obtain ⟨f, h, _⟩ := h
  obtain ⟨f', h', _⟩ := h'
  rw [h] at h'
  simp only [Option.some.injEq, Obj.cells.injEq] at h'
  exact ⟨h'.2.1, by simpa using congrArg Array.toList h'.1⟩
/-- Of the blocks that were there only some were changed. -/
structure Ch (B : Nat → Prop) (w w' : World) : Prop where
  size : w.heap.size ≤ w'.heap.size
  same : ∀ b, b < w.heap.size → ¬ B b → w'.heap[b]? = w.heap[b]?
  os : w'.os = w.os
  output : w'.output = w.output
abbrev Fr (w w' : World) : Prop := Ch (fun _ => False) w w'
theorem Ch.refl (B : Nat → Prop) (w : World) : Ch B w w := ⟨Nat.le_refl _, fun _ _ _ => rfl, rfl, rfl⟩
theorem Ch.mono {B B' : Nat → Prop} {w w' : World} (h : Ch B w w') (hb : ∀ b, b < w.heap.size → B b → B' b) : Ch B' w w' :=
  ⟨h.size, fun b hl hn => h.same b hl fun h' => hn (hb b hl h'), h.os, h.output⟩
theorem Ch.trans {B B' : Nat → Prop} {w w1 w2 : World} (h : Ch B w w1) (h' : Ch B' w1 w2) (hb : ∀ b, b < w.heap.size → B' b → B b) : Ch B w w2 :=
  ⟨Nat.le_trans h.size h'.size, fun b hl hn => (h'.same b (Nat.lt_of_lt_of_le hl h.size) fun h'' => hn (hb b hl h'')).trans (h.same b hl hn),
    h'.os.trans h.os, h'.output.trans h.output⟩
theorem Fr.ch {B : Nat → Prop} {w w' : World} (h : Fr w w') : Ch B w w' := h.mono fun _ _ h => h.elim
theorem Fr.trans {w w1 w2 : World} (h : Fr w w1) (h' : Fr w1 w2) : Fr w w2 := Ch.trans h h' fun _ _ h => h.elim
theorem Ch.blk {B : Nat → Prop} {w w' : World} (h : Ch B w w') {b : Nat} {T : TypeId} {l : List Value} (hb : Blk w b T l) (hn : ¬ B b) : Blk w' b T l := by
  have hl := hb.lt
  obtain ⟨f, hb, ht⟩ := hb
  exact ⟨f, (h.same b hl hn).trans hb, ht⟩
/-- A block that is new is changed. -/
theorem Ch.new {B : Nat → Prop} {w w1 w2 : World} (h : Ch B w w1) {b : Nat} (hb : b = w.heap.size) (h' : Ch (· = b) w1 w2) : Ch B w w2 :=
  h.trans h' fun c hl hc => (by subst hc; omega)
theorem Ch.trans' {B : Nat → Prop} {w w1 w2 : World} (h : Ch B w w1) {b : Nat} (hb : w.heap.size ≤ b) (h' : Ch (· = b) w1 w2) : Ch B w w2 :=
  h.trans h' fun c hl hc => (by subst hc; omega)
theorem Ch.drew (B : Nat → Prop) (w : World) : Ch B w w.drew := ⟨Nat.le_refl _, fun _ _ _ => rfl, rfl, rfl⟩
theorem Ch.alloc (B : Nat → Prop) (w : World) (o : Obj) : Ch B w (w.alloc o) :=
  ⟨by rw [World.size_alloc]; omega, fun b hl _ => heap_alloc_old w o hl, rfl, rfl⟩
theorem Ch.putB (w : World) (b : Nat) (o : Obj) : Ch (· = b) w (World.putB w b o) :=
  ⟨by rw [putB_size]; omega, fun c _ hn => putB_other fun h => hn h.symm, rfl, rfl⟩
abbrev Col := Nat → Nat
structure Keep (C : Nat → Prop) (w : World) (γ : Col) (w' : World) (γ' : Col) : Prop where
  ch : Ch (fun b => C (γ b)) w w'
  col : ∀ b, b < w.heap.size → γ' b = γ b
  wf : ∀ b, w'.heap.size ≤ b → γ' b = 0
def Wf (w : World) (γ : Col) : Prop := ∀ b, w.heap.size ≤ b → γ b = 0
theorem Keep.refl {C : Nat → Prop} {w : World} {γ : Col} (h : Wf w γ) : Keep C w γ w γ := ⟨Ch.refl _ _, fun _ _ => rfl, h⟩
theorem Keep.size {C : Nat → Prop} {w w' : World} {γ γ' : Col} (h : Keep C w γ w' γ') : w.heap.size ≤ w'.heap.size := h.ch.size
theorem Keep.mono {C C' : Nat → Prop} {w w' : World} {γ γ' : Col} (h : Keep C w γ w' γ') (hc : ∀ c, C c → C' c) : Keep C' w γ w' γ' :=
  ⟨h.ch.mono fun _ _ hb => hc _ hb, h.col, h.wf⟩
theorem Keep.trans {C C' : Nat → Prop} {w w1 w2 : World} {γ γ1 γ2 : Col} (h : Keep C w γ w1 γ1) (h' : Keep C' w1 γ1 w2 γ2) (hc : ∀ c, C' c → C c) : Keep C w γ w2 γ2 :=
  ⟨h.ch.trans h'.ch fun b hl hb => hc _ (by rw [← h.col b hl]; exact hb), fun b hl => (h'.col b (Nat.lt_of_lt_of_le hl h.size)).trans (h.col b hl), h'.wf⟩
theorem Keep.blk {C : Nat → Prop} {w w' : World} {γ γ' : Col} (h : Keep C w γ w' γ') {b : Nat} {T : TypeId} {l : List Value} (hb : Blk w b T l) (hn : ¬ C (γ b)) : Blk w' b T l :=
  h.ch.blk hb hn
theorem Fr.keep {C : Nat → Prop} {w w' : World} {γ : Col} (h : Fr w w') (hw : Wf w γ) : Keep C w γ w' γ :=
  ⟨h.ch, fun _ _ => rfl, fun b hb => hw b (Nat.le_trans h.size hb)⟩
/-- A block of a call's own is changed. -/
theorem Keep.own {C : Nat → Prop} {w w1 w2 : World} {γ γ1 : Col} (h : Keep C w γ w1 γ1) {b : Nat} (hb : w.heap.size ≤ b) (h' : Ch (· = b) w1 w2) : Keep C w γ w2 γ1 :=
  ⟨h.ch.trans h' fun c hl hc => (by subst hc; omega), h.col, fun c hc => h.wf c (Nat.le_trans h'.size hc)⟩
/-- A block that is new is given a colour. -/
def Col.paint (γ : Col) (b c : Nat) : Col := fun x => if x = b then c else γ x
theorem Keep.paint {C : Nat → Prop} {w w' : World} {γ γ' : Col} (h : Keep C w γ w' γ') {b c : Nat} (hb : w.heap.size ≤ b) (hl : b < w'.heap.size) : Keep C w γ w' (γ'.paint b c) :=
  ⟨h.ch, fun x hx => by unfold Col.paint; rw [if_neg (by omega)]; exact h.col x hx, fun x hx => by unfold Col.paint; rw [if_neg (by omega)]; exact h.wf x hx⟩
theorem rd_blk {w : World} {b : Nat} {T : TypeId} {l : List Value} (h : Blk w b T l) (t : TypeId) (o : Nat) : rd P t w (ptr b o) = rdL P t l o := by
  obtain ⟨f, h, _⟩ := h
  simp only [rd, h]
theorem rd1 {w : World} {b o : Nat} {T t : TypeId} {l : List Value} {n : Nat} {v : Value} (h : Blk w b T l) (ht : lay P t = some (false, n)) (hv : l[o]? = some v) : rd P t w (ptr b o) = some v := by
  rw [rd_blk h]; unfold rdL; rw [ht]; exact hv
theorem rdN {w : World} {b o : Nat} {T t : TypeId} {l vs : List Value} {n : Nat} (h : Blk w b T l) (ht : lay P t = some (true, n)) (ho : o + n ≤ l.length) (hv : (l.drop o).take n = vs) : rd P t w (ptr b o) = some (.agg vs.toArray) := by
  rw [rd_blk h]; unfold rdL; rw [ht]
  simp only
  rw [if_pos ho, hv]
theorem wr_blk {w : World} {b o : Nat} {T t : TypeId} {l vs : List Value} {g : Bool} {n : Nat} {v : Value} (h : Blk w b T l) (ht : lay P t = some (g, n)) (hv : v.cells.toList = vs) (hn : vs.length = n)
    (ho : o + n ≤ l.length) (h1 : vs.all (·.oneCell') = true) : ∃ w', wr P t w (ptr b o) v = some w' ∧ Ch (· = b) w w' ∧ Blk w' b T (splice l o vs) := by
  have hlt := h.lt
  obtain ⟨f, h, hth⟩ := h
  subst hv; subst hn
  refine ⟨World.putB w b (.cells (splice l o v.cells.toList).toArray T f), ?_, Ch.putB _ _ _, f, putB_same hlt, ?_⟩
  · simp only [wr, h, ht]
    rw [if_pos ⟨hth, trivial, ho, h1⟩]
  · have : (splice l o v.cells.toList).length = l.length := by simp [splice]; simp at ho; omega
    rw [this]; exact hth
theorem splice_one (l : List Value) (o : Nat) (v : Value) (h : o < l.length) : splice l o [v] = l.set o v := by
  unfold splice
  rw [List.set_eq_take_append_cons_drop, if_pos h]
  simp
theorem alloc_blk {w : World} {T : TypeId} {l : List Value} : Blk (w.alloc (.cells l.toArray T)) w.heap.size T l := ⟨(0, 0), heap_alloc_new w _, .inl rfl⟩
/-- A variable of one cell is read. -/
theorem pLd1 {w : World} {b o : Nat} {T t : TypeId} {l : List Value} {n : Nat} {v : Value} {K : Value → World → Prop} (h : Blk w b T l) (ht : lay P t = some (false, n)) (hv : l[o]? = some v)
    (k : K v w) : pLd P t (ptr b o) K w := pLd_of (rd1 h ht hv) k
/-- A variable of more cells is read. -/
theorem pLdN {w : World} {b o : Nat} {T t : TypeId} {l : List Value} {n : Nat} {K : Value → World → Prop} (vs : List Value) (h : Blk w b T l) (ht : lay P t = some (true, n)) (ho : o + n ≤ l.length) (hv : (l.drop o).take n = vs)
    (k : K (.agg vs.toArray) w) : pLd P t (ptr b o) K w := pLd_of (rdN h ht ho hv) k
/-- A variable of one cell is written. -/
theorem pSt1 {w : World} {b o : Nat} {T t : TypeId} {l : List Value} {g : Bool} {v : Value} {K : World → Prop} (h : Blk w b T l) (ht : lay P t = some (g, 1)) (hv : v.cells.toList = [v]) (h1 : v.oneCell' = true) (ho : o < l.length)
    (k : ∀ w1, Ch (· = b) w w1 → Blk w1 b T (l.set o v) → K w1) : pSt P t (ptr b o) v K w := by
  obtain ⟨w', e1, e2, e3⟩ := wr_blk (o := o) (n := 1) (vs := [v]) h ht hv rfl (by omega) (by simp [h1])
  refine pSt_of e1 ?_
  rw [splice_one l o v ho] at e3
  exact k _ e2 e3
/-- A variable of more cells is written. -/
theorem pStN {w : World} {b o : Nat} {T t : TypeId} {l : List Value} {g : Bool} {n : Nat} {v : Value} {K : World → Prop} (vs : List Value) (h : Blk w b T l) (ht : lay P t = some (g, n)) (hv : v.cells.toList = vs) (hn : vs.length = n)
    (ho : o + n ≤ l.length) (h1 : vs.all (·.oneCell') = true) (k : ∀ w1, Ch (· = b) w w1 → Blk w1 b T (splice l o vs) → K w1) : pSt P t (ptr b o) v K w := by
  obtain ⟨w', e1, e2, e3⟩ := wr_blk h ht hv hn ho h1
  exact pSt_of e1 (k _ e2 e3)
/-- A new variable. -/
theorem pNew_of {w : World} {t : TypeId} {v : Value} {K : Value → World → Prop} (vs : List Value) (hv : v.cells.toList = vs) (k : ∀ b w1, b = w.heap.size → b < w1.heap.size → Fr w w1 → Blk w1 b t vs → K (ptr b 0) w1) : pNew t v K w := by
  subst hv
  unfold pNew
  refine k w.heap.size _ rfl (by rw [World.size_alloc]; omega) (Ch.alloc _ _ _) ?_
  have := alloc_blk (w := w) (T := t) (l := v.cells.toList)
  simpa using this
theorem pAlloc_of {w : World} {t : TypeId} {z : Value} {K : Value → World → Prop} (vs : List Value) (hz : zeroP P t = some z) (hv : z.cells.toList = vs)
    (k : ∀ b w1, b = w.heap.size → b < w1.heap.size → Fr w w1 → Blk w1 b t vs → K (ptr b 0) w1) : pAlloc P t K w := by
  unfold pAlloc; rw [hz]; exact pNew_of vs hv k
theorem pDraw_fr (S : World → Prop) {B : (World → Prop) → World → Prop} {w : World} (k : ∀ w1, Fr w w1 → (∀ b T l, Blk w b T l → Blk w1 b T l) → w1.heap.size = w.heap.size → S w1 ∧ B S w1) : pDraw B w :=
  pDraw_of S (k w.drew (Ch.drew _ _) (fun _ _ _ h => h) rfl).1 (k w.drew (Ch.drew _ _) (fun _ _ _ h => h) rfl).2
/-- A variable is read in all worlds of a class. -/
theorem pHld1 {S : World → Prop} {w : World} {b o : Nat} {T t : TypeId} {l : List Value} {n : Nat} {v : Value} {K : Value → World → Prop} (h : ∀ w', S w' → Blk w' b T l) (ht : lay P t = some (false, n)) (hv : l[o]? = some v)
    (k : K v w) : pHld P S t (ptr b o) K w := pHld_of (fun w' hS => rd1 (h w' hS) ht hv) k
theorem pHldN {S : World → Prop} {w : World} {b o : Nat} {T t : TypeId} {l : List Value} {n : Nat} {K : Value → World → Prop} (vs : List Value) (h : ∀ w', S w' → Blk w' b T l) (ht : lay P t = some (true, n)) (ho : o + n ≤ l.length) (hv : (l.drop o).take n = vs)
    (k : K (.agg vs.toArray) w) : pHld P S t (ptr b o) K w := pHld_of (fun w' hS => rdN (h w' hS) ht ho hv) k
end
end Go.Al
