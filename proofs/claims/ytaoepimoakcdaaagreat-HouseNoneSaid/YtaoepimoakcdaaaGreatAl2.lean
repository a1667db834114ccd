/- HouseNone: a nil house is down and has nothing; this text: part 2 of the proof, no condition. -/
import Derived.Test.YtaoepimoakcdaaaGreatAl1
import Derived.Laws.AppendOwn
import Derived.Laws.MakeOwn
import Derived.Laws.IdiomRangeMap
import Derived.Laws.IdiomStrings
import Derived.Test.YtaoepimoakcdaaaGreatProg
import Derived.KernelRfl
namespace Go.Al
open Go
section
variable {P : Program}
/-- The block that a slice may be written through. -/
def live : Value → Option Nat
  | .slice (some a) _ cap => if cap = 0 then none else some a.block
  | _ => none
/-- A slice of n elements, whose cells are these. -/
def Sc (w : World) (sz : Nat) (v : Value) (n : Nat) (cs : List Value) : Prop :=
  cs.length = n * sz ∧ ∃ a cap, v = .slice a n cap ∧ n ≤ cap ∧ cap ≤ maxLen ∧
    ((cap = 0 ∧ ∀ x, a = some x → x.spot = none) ∨
      ∃ b o T l, 0 < cap ∧ a = some ⟨b, o, none⟩ ∧ Blk w b T l ∧ o + cap * sz ≤ l.length ∧ (l.drop o).take (n * sz) = cs)
/-- A slice of things, each of so many cells. -/
def Sl {α : Type} (w : World) (sz : Nat) (f : α → List Value) (v : Value) (xs : List α) : Prop :=
  (∀ x, (f x).length = sz) ∧ Sc w sz v xs.length (xs.flatMap f)
theorem Sc.nil (w : World) (sz : Nat) : Sc w sz (.slice none 0 0) 0 [] := ⟨by simp, none, 0, rfl, Nat.le_refl _, Nat.zero_le _, .inl ⟨rfl, by simp⟩⟩
theorem Sl.nil {α : Type} (w : World) {sz : Nat} {f : α → List Value} (hf : ∀ x, (f x).length = sz) : Sl w sz f (.slice none 0 0) [] := ⟨hf, Sc.nil w sz⟩
theorem Sc.same {w w' : World} {sz n : Nat} {v : Value} {cs : List Value} (h : Sc w sz v n cs) (hb : ∀ b, live v = some b → b < w.heap.size → w'.heap[b]? = w.heap[b]?) : Sc w' sz v n cs := by
  obtain ⟨h1, a, cap, rfl, h2, h3, h4⟩ := h
  refine ⟨h1, a, cap, rfl, h2, h3, ?_⟩
  rcases h4 with h4 | ⟨b, o, T, l, h5, rfl, h6, h7, h8⟩
  · exact .inl h4
  · refine .inr ⟨b, o, T, l, h5, rfl, ?_, h7, h8⟩
    have hl6 := h6.lt
    obtain ⟨f, h6, ht⟩ := h6
    exact ⟨f, by rw [hb b (by simp [live]; omega) hl6]; exact h6, ht⟩
theorem Sc.ch {B : Nat → Prop} {w w' : World} {sz n : Nat} {v : Value} {cs : List Value} (h : Sc w sz v n cs) (hc : Ch B w w') (hb : ∀ b, live v = some b → ¬ B b) : Sc w' sz v n cs :=
  h.same fun b hl hs => hc.same b hs (hb b hl)
theorem Sl.ch {α : Type} {B : Nat → Prop} {w w' : World} {sz : Nat} {f : α → List Value} {v : Value} {xs : List α} (h : Sl w sz f v xs) (hc : Ch B w w') (hb : ∀ b, live v = some b → ¬ B b) : Sl w' sz f v xs :=
  ⟨h.1, h.2.ch hc hb⟩
theorem Sl.fr {α : Type} {w w' : World} {sz : Nat} {f : α → List Value} {v : Value} {xs : List α} (h : Sl w sz f v xs) (hc : Fr w w') : Sl w' sz f v xs := h.ch hc fun _ _ h => h
theorem Sc.live_lt {w : World} {sz n : Nat} {v : Value} {cs : List Value} (h : Sc w sz v n cs) {b : Nat} (hb : live v = some b) : b < w.heap.size := by
  obtain ⟨h1, a, cap, rfl, h2, h3, h4⟩ := h
  rcases h4 with ⟨rfl, _⟩ | ⟨b', o, T, l, h5, rfl, h6, h7, h8⟩
  · cases a <;> simp [live] at hb
  · simp only [live] at hb
    split at hb
    · cases hb
    · cases hb; exact h6.lt
theorem Sl.live_lt {α : Type} {w : World} {sz : Nat} {f : α → List Value} {v : Value} {xs : List α} (h : Sl w sz f v xs) {b : Nat} (hb : live v = some b) : b < w.heap.size := h.2.live_lt hb
theorem Sc.shape {w : World} {sz n : Nat} {v : Value} {cs : List Value} (h : Sc w sz v n cs) : ∃ a cap, v = .slice a n cap := by
  obtain ⟨h1, a, cap, h2, _⟩ := h; exact ⟨a, cap, h2⟩
/-- How many there are. -/
theorem Sl.len {α : Type} {w : World} {sz : Nat} {f : α → List Value} {v : Value} {xs : List α} (h : Sl w sz f v xs) {t : TypeId} (ht : kindP P t = 5) : lenBV P #[t] [v] = some (i64 xs.length) := by
  obtain ⟨_, _, a, cap, rfl, _⟩ := h
  exact lenBV_slice ht a _ cap
theorem length_flatMap {α : Type} {f : α → List Value} {sz : Nat} (hf : ∀ x, (f x).length = sz) : ∀ xs : List α, (xs.flatMap f).length = xs.length * sz
  | [] => by simp
  | x :: xs => by simp [hf, length_flatMap hf xs, Nat.add_mul, Nat.add_comm]
theorem drop_flatMap {α : Type} {f : α → List Value} {sz : Nat} (hf : ∀ x, (f x).length = sz) : ∀ (xs : List α) (i : Nat), (xs.flatMap f).drop (i * sz) = (xs.drop i).flatMap f
  | [], i => by simp
  | x :: xs, 0 => by simp
  | x :: xs, i + 1 => by
    have h1 : (i + 1) * sz = (f x).length + i * sz := by rw [hf, Nat.add_mul]; omega
    rw [List.flatMap_cons, h1, ← List.drop_drop, List.drop_left, drop_flatMap hf xs i]
    rfl
theorem take_flatMap {α : Type} {f : α → List Value} {sz : Nat} (hf : ∀ x, (f x).length = sz) : ∀ (xs : List α) (i : Nat), (xs.flatMap f).take (i * sz) = (xs.take i).flatMap f
  | [], i => by simp
  | x :: xs, 0 => by simp
  | x :: xs, i + 1 => by
    have h1 : (i + 1) * sz = (f x).length + i * sz := by rw [hf, Nat.add_mul]; omega
    rw [List.flatMap_cons, h1, List.take_length_add_append, take_flatMap hf xs i]
    rfl
theorem length_splice {z vs : List Value} {o : Nat} (h : o + vs.length ≤ z.length) : (splice z o vs).length = z.length := by
  simp [splice]; omega
/-- A change within a part is a change of the part. -/
theorem splice_sub {l c vs : List Value} {o k sz : Nat} (hc : (l.drop o).take sz = c) (hl : o + sz ≤ l.length) (hk : k + vs.length ≤ sz) : splice l (o + k) vs = splice l o (splice c k vs) := by
  have hcl : c.length = sz := by rw [← hc]; simp; omega
  have hl' : l = l.take o ++ (c ++ l.drop (o + sz)) := by
    rw [← hc, ← List.drop_drop, List.take_append_drop, List.take_append_drop]
  have ho : (l.take o).length = o := by simp; omega
  unfold splice
  have e1 : l.take (o + k) = l.take o ++ c.take k := by
    conv => lhs; rw [hl']
    rw [show o + k = (l.take o).length + k by rw [ho], List.take_length_add_append, List.take_append_of_le_length (by omega)]
  have e2 : l.drop (o + k + vs.length) = c.drop (k + vs.length) ++ l.drop (o + sz) := by
    conv => lhs; rw [hl']
    rw [show o + k + vs.length = (l.take o).length + (k + vs.length) by rw [ho]; omega, List.drop_length_add_append, List.drop_append_of_le_length (by omega)]
  have e3 : (c.take k ++ (vs ++ c.drop (k + vs.length))).length = sz := by simp; omega
  rw [e1, e2, e3]
  simp [List.append_assoc]
/-- An element's variable. -/
theorem Sl.at {α : Type} {w : World} {sz : Nat} {f : α → List Value} {v : Value} {xs : List α} (h : Sl w sz f v xs) {i : Nat} {x : α} (hi : xs[i]? = some x) (hsz : 0 < sz) :
    ∃ b o T l, live v = some b ∧ Blk w b T l ∧ (∀ t k, idxP P t = some (none, sz) → indexV P t v (.int k i) = some (ptr b o)) ∧ o + sz ≤ l.length ∧ (l.drop o).take sz = f x ∧
      (∀ w1 y l1, Blk w1 b T l1 → l1 = splice l o (f y) → Sl w1 sz f v (xs.set i y)) := by
  obtain ⟨hf, hlen, a, cap, rfl, hn, hm, h4⟩ := h
  obtain ⟨hil, hix⟩ := List.getElem?_eq_some_iff.1 hi
  rcases h4 with ⟨rfl, _⟩ | ⟨b, o, T, l, h5, rfl, h6, h7, h8⟩
  · omega
  · have hmul : (i + 1) * sz ≤ cap * sz := Nat.mul_le_mul_right _ (by omega)
    have hmul2 : (i + 1) * sz ≤ xs.length * sz := Nat.mul_le_mul_right _ (by omega)
    have hsplit : (i + 1) * sz = i * sz + sz := by rw [Nat.add_mul]; omega
    refine ⟨b, o + i * sz, T, l, by simp [live]; omega, h6, ?_, by omega, ?_, ?_⟩
    · intro t k ht
      unfold indexV
      rw [ht]
      simp [hil]
    · rw [← List.drop_drop]
      have e : ((l.drop o).take (xs.length * sz)).drop (i * sz) = (xs.drop i).flatMap f := by rw [h8]; exact drop_flatMap hf xs i
      have e2 : (((l.drop o).take (xs.length * sz)).drop (i * sz)).take sz = ((l.drop o).drop (i * sz)).take sz := by
        rw [List.drop_take, List.take_take]
        congr 1
        omega
      rw [← e2, e]
      rw [List.drop_eq_getElem_cons hil, List.flatMap_cons, hix, ← hf x, List.take_left]
    · intro w1 y l1 hb1 hl1
      have hl1len : l1.length = l.length := by rw [hl1]; exact length_splice (by rw [hf]; omega)
      refine ⟨hf, by rw [length_flatMap hf], some ⟨b, o, none⟩, cap, by simp, by simpa using hn, hm, .inr ⟨b, o, T, l1, h5, rfl, hb1, by omega, ?_⟩⟩
      rw [List.length_set]
      subst hl1
      have hset : xs.set i y = xs.take i ++ y :: xs.drop (i + 1) := by rw [List.set_eq_take_append_cons_drop, if_pos hil]
      rw [hset, List.flatMap_append, List.flatMap_cons, ← take_flatMap hf, ← drop_flatMap hf, ← h8]
      unfold splice
      rw [hf]
      have ho1 : (l.take (o + i * sz)).length = o + i * sz := by simp; omega
      rw [List.drop_append_of_le_length (by omega), List.drop_take]
      have a1 : o + i * sz - o = i * sz := by omega
      have a2 : ((l.drop o).take (i * sz)).length = i * sz := by simp; omega
      have a3 : xs.length * sz - i * sz = sz + (xs.length * sz - (i + 1) * sz) := by omega
      rw [a1, List.take_append, a2, a3, ← hf y, List.take_length_add_append, hf y, List.take_take, List.take_take, Nat.min_eq_right (by omega), Nat.min_eq_left (by omega)]
      congr 1
      congr 1
      rw [List.drop_take, List.drop_drop]
      congr 1
      congr 1
      omega
/-- A slice's type: its element's type, how many cells, how many bytes. -/
def sliP (P : Program) (t : TypeId) : Option (TypeId × Nat × Nat) :=
  match P.underlying t with
  | some (.slice e) => match P.info? e with
    | some i => match i.zero with
      | some z => match Nat.beq z.cells.size i.size with
        | true => some (e, i.size, i.bytes)
        | false => none
      | none => none
    | none => none
  | _ => none
theorem sliP_out {t e : TypeId} {sz by' : Nat} (h : sliP P t = some (e, sz, by')) : ∃ i z, P.underlying t = some (.slice e) ∧ P.info? e = some i ∧ i.zero = some z ∧ z.cells.size = sz ∧ i.size = sz ∧ i.bytes = by' := by
  unfold sliP at h
  split at h
  · rename_i e' hu
    split at h
    · rename_i i hi
      split at h
      · rename_i z hz
        split at h
        · rename_i hb
          cases h
          exact ⟨i, z, hu, hi, hz, Nat.eq_of_beq_eq_true hb, rfl, rfl⟩
        · cases h
      · cases h
    · cases h
  · cases h
theorem Sc.cells {w : World} {sz n : Nat} {b o cap : Nat} {cs : List Value} (h : Sc w sz (.slice (some ⟨b, o, none⟩) n cap) n cs) : ∀ j u, cs[j]? = some u → w.cell? ((⟨b, o, none⟩ : Addr).add j) = some u := by
  intro j u hu
  obtain ⟨h1, a, cap', he, h2, h3, h4⟩ := h
  cases he
  rcases h4 with ⟨rfl, _⟩ | ⟨b', o', T, l, h5, he, h6, h7, h8⟩
  · obtain rfl : n = 0 := by omega
    have : cs = [] := List.eq_nil_of_length_eq_zero (by simpa using h1)
    subst this; simp at hu
  · cases he
    obtain ⟨f6, h6, ht6⟩ := h6
    have hadd : (⟨b, o, none⟩ : Addr).add j = ⟨b, o + j, none⟩ := by unfold Addr.add; split <;> simp_all
    rw [hadd]
    rw [← h8, List.getElem?_take] at hu
    split at hu
    · rw [List.getElem?_drop] at hu
      simp [World.cell?, h6, hu]
    · cases hu
/-- What a slice holds is read. -/
theorem Sc.first {w : World} {sz n : Nat} {v : Value} {cs : List Value} (h : Sc w sz v n cs) : (Builtin.firstCells sz n v).run P w = .ok cs.toArray w := by
  obtain ⟨h1, a, cap, rfl, h2, h3, h4⟩ := id h
  cases a with
  | none =>
    rcases h4 with ⟨rfl, _⟩ | ⟨b, o, T, l, h5, he, h6, h7, h8⟩
    · obtain rfl : n = 0 := by omega
      have : cs = [] := List.eq_nil_of_length_eq_zero (by simpa using h1)
      subst this
      exact run_firstCells_none (P := P) w sz 0 0 0
    · cases he
  | some x =>
    obtain ⟨b, o, sp⟩ := x
    have : sp = none := by
      rcases h4 with ⟨_, h⟩ | ⟨b', o', T, l, h5, he, h6, h7, h8⟩
      · exact h _ rfl
      · cases he; rfl
    subst this
    exact run_firstCells_some (P := P) w sz n _ n cap cs h1 h.cells
theorem mem_all {l : List Value} (h : l.all (·.oneCell') = true) : ∀ u ∈ l, u.oneCell' = true := List.all_eq_true.1 h
/-- A slice is appended to. -/
theorem append_sc {t ty e : TypeId} {sz by' : Nat} {w : World} {v x : Value} {n m : Nat} {xs ys : List Value} (ht : sliP P t = some (e, sz, by')) (h : Sc w sz v n xs) (h' : Sc w sz x m ys)
    (h1 : ys.all (·.oneCell') = true) (h63 : n + m ≤ maxLen) (hbytes : (n + m) * by' ≤ 140737488355328) :
    ∃ v' w', (Builtin.append_ #[t, t] ty #[v, x]).run P w = .ok v' w' ∧ Sc w' sz v' (n + m) (xs ++ ys) ∧ Ch (fun b => live v = some b) w w' ∧ (live v' = live v ∨ ∃ b, live v' = some b ∧ w.heap.size ≤ b) := by
  obtain ⟨i, z, hu, hi, hz, hzs, hsz, hby⟩ := sliP_out ht
  subst hsz
  obtain ⟨a2, cap2, hx⟩ := h'.shape
  obtain ⟨hl, a, cap, rfl, h2, h3, h4⟩ := id h
  have hl' := h'.1
  have hfv : (Builtin.firstCells i.size n (.slice a n cap)).run P w.drew = .ok xs.toArray w.drew := Sc.first (h.ch (Ch.drew (fun _ => False) w) fun _ _ h => h)
  have hf' : (Builtin.firstCells i.size m x).run P w.drew = .ok ys.toArray w.drew := Sc.first (h'.ch (Ch.drew (fun _ => False) w) fun _ _ h => h)
  have hf : (Builtin.firstCells i.size m x).run P w = .ok ys.toArray w := h'.first
  subst hx
  by_cases hroom : n + m ≤ cap
  · rcases h4 with ⟨rfl, hsp⟩ | ⟨b, o, T, l, h5, rfl, h6, h7, h8⟩
    · obtain rfl : n = 0 := by omega
      obtain rfl : m = 0 := by omega
      have e1 : xs = [] := List.eq_nil_of_length_eq_zero (by simpa using hl)
      have e2 : ys = [] := List.eq_nil_of_length_eq_zero (by simpa using hl')
      subst e1; subst e2
      refine ⟨.slice a 0 0, w, ?_, ?_, Ch.refl _ _, .inl rfl⟩
      · cases a <;> simp [Builtin.append_, run_underlying hu, sizeOf, typeInfo, hi, Builtin.lenOf, hf, storeCells]
      · exact h
    · obtain ⟨f6, h6, ht6⟩ := h6
      have hfit : n * i.size + m * i.size ≤ cap * i.size := by rw [← Nat.add_mul]; exact Nat.mul_le_mul_right _ hroom
      have hst := run_storeCells_splice (P := P) (o + n * i.size) ys 0 l w h6 ht6 (by omega) (mem_all h1)
      simp only [Nat.add_zero] at hst
      have hrun : (Builtin.append_ #[t, t] ty #[.slice (some ⟨b, o, none⟩) n cap, .slice a2 m cap2]).run P w =
          .ok (.slice (some ⟨b, o, none⟩) (n + m) cap) (World.putB w b (.cells (splice l (o + n * i.size) ys).toArray T f6)) := by
        have hadd : (⟨b, o, none⟩ : Addr).add (n * i.size) = ⟨b, o + n * i.size, none⟩ := by unfold Addr.add; split <;> simp_all
        simp [Builtin.append_, run_underlying hu, sizeOf, typeInfo, hi, Builtin.lenOf, hroom, hf, hadd, hst]
      have hblk : Blk (World.putB w b (.cells (splice l (o + n * i.size) ys).toArray T f6)) b T (splice l (o + n * i.size) ys) := ⟨f6, putB_same (Array.getElem?_eq_some_iff.1 h6).1, by rw [length_splice (by omega)]; exact ht6⟩
      refine ⟨_, _, hrun, ⟨by rw [List.length_append, hl, hl', Nat.add_mul], _, _, rfl, hroom, h3, .inr ⟨b, o, T, _, h5, rfl, hblk, ?_, ?_⟩⟩, ?_, .inl ?_⟩
      · rw [length_splice (by omega)]; omega
      · unfold splice
        have ho1 : (l.take (o + n * i.size)).length = o + n * i.size := by simp; omega
        rw [List.drop_append_of_le_length (by omega), List.drop_take]
        have a1 : o + n * i.size - o = n * i.size := by omega
        rw [a1, h8, Nat.add_mul, ← hl, List.take_length_add_append, ← hl', List.take_left]
      · refine ⟨by rw [putB_size]; omega, fun c hc hn => putB_other fun he => hn (by subst he; simp [live]; omega), rfl, rfl⟩
      · simp only [live]
  · have hge := grownCap_ge w (n + m) cap e
    have hcm := grownCap_le_maxLen w (n + m) cap e h63
    have h63' : ¬ (9223372036854775807 < ((n : Int) + (m : Int))) := by simp only [maxLen] at h63; omega
    have h48' : ¬ (281474976710656 < Builtin.nextslicecap (n + m) cap * i.bytes) := by rw [hby]; have := growslice_fits (by omega : cap < n + m) hbytes; omega
    have hrun : (Builtin.append_ #[t, t] ty #[.slice a n cap, .slice a2 m cap2]).run P w =
        .ok (.slice (some ⟨w.heap.size, 0, none⟩) (n + m) (grownCap w (n + m) cap e))
          (w.drew.alloc (.cells (xs ++ (ys ++ (Builtin.zeroCells z.cells (grownCap w (n + m) cap e - (n + m))).toList)).toArray e)) := by
      simp [Builtin.append_, run_underlying hu, sizeOf, typeInfo, zeroValue, hi, hz, Builtin.lenOf, hroom, h63', h48', Question.forced, hf', hfv, newRow, grownCap]
      congr 2
      apply Array.ext'
      simp
    refine ⟨_, _, hrun, ⟨by rw [List.length_append, hl, hl', Nat.add_mul], _, _, rfl, hge, hcm, .inr ⟨w.heap.size, 0, e, _, by omega, rfl, ⟨(0, 0), heap_alloc_new w.drew _, .inl rfl⟩, ?_, ?_⟩⟩, ?_, .inr ⟨w.heap.size, ?_, Nat.le_refl _⟩⟩
    · simp only [List.length_append, Array.length_toList, size_zeroCells, hl, hl', hzs]
      rw [Nat.zero_add, ← Nat.add_assoc, ← Nat.add_mul, ← Nat.add_mul]
      exact Nat.mul_le_mul_right _ (by omega)
    · rw [List.drop_zero, Nat.add_mul, ← hl, List.take_length_add_append, ← hl', List.take_left]
    · exact (Ch.drew _ w).trans (Ch.alloc (fun _ => False) w.drew _) fun _ _ h => h.elim
    · simp only [live]; rw [if_neg (by omega)]
end
end Go.Al

namespace Go.Al
open Go
section
variable {P : Program}
/-- A slice is appended to. -/
theorem pAppend' {α : Type} {t ty e : TypeId} {sz by' : Nat} {w : World} {v x : Value} {f : α → List Value} {xs ys : List α} {K : Value → World → Prop} (ht : sliP P t = some (e, sz, by'))
    (h : Sl w sz f v xs) (h' : Sl w sz f x ys) (h1 : ∀ y ∈ ys, (f y).all (·.oneCell') = true) (h63 : xs.length + ys.length ≤ 1000000000) (hby : by' ≤ 100000)
    (k : ∀ v' w', Sl w' sz f v' (xs ++ ys) → Ch (fun b => live v = some b) w w' → (live v' = live v ∨ ∃ b, live v' = some b ∧ w.heap.size ≤ b) → K v' w') :
    pRoom P (Builtin.append_ #[t, t] ty #[v, x]) K w := by
  have hm : xs.length + ys.length ≤ maxLen := by simp only [maxLen]; omega
  have hb : (xs.length + ys.length) * by' ≤ 140737488355328 := Nat.le_trans (Nat.mul_le_mul h63 hby) (by omega)
  obtain ⟨v', w', hr, h2, h3, h4⟩ := append_sc (ty := ty) ht h.2 h'.2 (by rw [List.all_eq_true]; intro u hu; obtain ⟨y, hm, hy⟩ := List.mem_flatMap.1 hu; exact List.all_eq_true.1 (h1 y hm) u hy) hm hb
  unfold pRoom okThen
  rw [hr]
  exact k v' w' ⟨h.1, by rw [List.length_append, List.flatMap_append]; exact h2⟩ h3 h4
/-- A slice is appended to. -/
theorem pAppend {α : Type} {t ty e : TypeId} {sz by' : Nat} {w : World} {v x : Value} {f : α → List Value} {xs ys : List α} {K : Value → World → Prop} (ht : sliP P t = some (e, sz, by'))
    (h : Sl w sz f v xs) (h' : Sl w sz f x ys) (h1 : ∀ y, (f y).all (·.oneCell') = true) (h63 : xs.length + ys.length ≤ 1000000000) (hby : by' ≤ 100000)
    (k : ∀ v' w', Sl w' sz f v' (xs ++ ys) → Ch (fun b => live v = some b) w w' → (live v' = live v ∨ ∃ b, live v' = some b ∧ w.heap.size ≤ b) → K v' w') :
    pRoom P (Builtin.append_ #[t, t] ty #[v, x]) K w :=
  pAppend' ht h h' (fun y _ => h1 y) h63 hby k
theorem flatMap_replicate {α : Type} (f : α → List Value) (x : α) : ∀ n, (List.replicate n x).flatMap f = (List.replicate n (f x)).flatten
  | 0 => rfl
  | n + 1 => by simp [List.replicate_succ, flatMap_replicate f x n]
theorem made_cells (z : List Value) (hz : 0 < z.length) : ∀ n, (List.range (n * z.length)).map (fun i => z.toArray[i % z.length]!) = (List.replicate n z).flatten
  | 0 => by simp
  | n + 1 => by
    have hone : (List.range z.length).map (fun i => z.toArray[(n * z.length + i) % z.length]!) = z := by
      apply List.ext_getElem?
      intro i
      by_cases hi : i < z.length
      · rw [List.getElem?_map, List.getElem?_range hi]
        simp [hi, Nat.mod_eq_of_lt hi, Nat.add_mod, Nat.mul_mod_left]
      · rw [List.getElem?_eq_none (by simp; omega), List.getElem?_eq_none (by omega)]
    rw [Nat.add_mul, Nat.one_mul, List.range_add, List.map_append, made_cells z hz n, List.map_map, List.replicate_succ', List.flatten_append]
    simp only [Function.comp_def, hone, List.flatten_singleton]
/-- A slice is made. -/
theorem pMake {α : Type} {t e : TypeId} {sz by' : Nat} {w : World} {f : α → List Value} {x : α} {n : Nat} {K : Value → World → Prop} {z : Value} (ht : sliP P t = some (e, sz, by'))
    (hz : zeroP P e = some z) (hf : ∀ y, (f y).length = sz) (hx : f x = z.cells.toList) (hsz : 0 < sz) (h63 : n ≤ 1000000000) (hby : by' ≤ 100000)
    (k : ∀ v' w' b, Sl w' sz f v' (List.replicate n x) → Fr w w' → (live v' = none ∨ live v' = some b) → w.heap.size ≤ b → K v' w') :
    pRun P (Instr.makeSlice t (i64 n) (i64 n)) K w := by
  obtain ⟨i, z', hu, hi, hz', hzs, hs, hb⟩ := sliP_out ht
  have hzz : z' = z := by
    unfold zeroP at hz
    rw [hi] at hz
    simp only [Option.bind_some, Option.bind] at hz
    first | (rw [hz'] at hz; exact Option.some.inj hz) | skip
  subst hzz
  subst hs
  have hbytes : (i.bytes : Int) * (n : Int) ≤ 281474976710656 := by
    have : i.bytes * n ≤ 100000 * 1000000000 := Nat.mul_le_mul (by omega) h63
    have h2 : ((i.bytes * n : Nat) : Int) = (i.bytes : Int) * (n : Int) := by simp
    omega
  have hr := run_make (P := P) w t e i z' hu hi hz' .i64 .i64 (n : Int) (n : Int) (by omega) (by omega) hbytes (by omega)
  unfold pRun okThen
  rw [hr]
  simp only [Int.toNat_natCast]
  have hcells : (madeCells z'.cells (n * i.size)).toList = (List.replicate n x).flatMap f := by
    rw [flatMap_replicate, hx]
    have hl : z'.cells.toList.length = i.size := by simpa using hzs
    have := made_cells z'.cells.toList (by rw [hl]; exact hsz) n
    rw [← this]
    simp only [madeCells]
    simp [hl]
    intros
    simp [hzs]
  refine k _ _ w.heap.size ⟨hf, by rw [length_flatMap hf], some ⟨w.heap.size, 0, none⟩, n, by simp, by simp, by simp only [maxLen]; omega, ?_⟩ (Ch.alloc _ _ _) ?_ (Nat.le_refl _)
  · by_cases hn : n = 0
    · left
      exact ⟨hn, fun y hy => by cases hy; rfl⟩
    · right
      refine ⟨w.heap.size, 0, e, (madeCells z'.cells (n * i.size)).toList, by omega, rfl, ?_, ?_, ?_⟩
      · have := heap_alloc_new w (.cells (madeCells z'.cells (n * i.size)) e)
        exact ⟨(0, 0), by simpa using this, .inl rfl⟩
      · rw [hcells, length_flatMap hf]; simp
      · rw [hcells, List.drop_zero, List.length_replicate, List.take_of_length_le]
        rw [length_flatMap hf]; simp
  · simp only [live]
    split
    · left; rfl
    · right; rfl
/-- A part of a slice. -/
theorem sl_slice {α : Type} {w : World} {sz by' : Nat} {t e : TypeId} {f : α → List Value} {v : Value} {xs : List α} (h : Sl w sz f v xs) (ht : sliP P t = some (e, sz, by')) {lo hi : Option Value} {l k : Nat}
    (hk : k ≤ xs.length) (hl : l ≤ k) (hhi : ∀ c, xs.length ≤ c → boundV hi xs.length c = some k) (hlo : boundV lo 0 k = some l) :
    ∃ v', sliceV P t v lo hi none = some v' ∧ Sl w sz f v' ((xs.take k).drop l) ∧ (live v' = live v ∨ live v' = none) := by
  obtain ⟨i, z, hu, hi', hz, hzs, hs, hb⟩ := sliP_out ht
  subst hs
  obtain ⟨hf, hlen, a, cap, rfl, hn, hm, h4⟩ := h
  refine ⟨.slice (if cap = l then a else a.map (·.add (l * i.size))) (k - l) (cap - l), ?_, ⟨hf, ?_⟩, ?_⟩
  · unfold sliceV
    rw [hu]
    simp only [hi', hhi cap hn, hlo]
  · have hlen' : ((xs.take k).drop l).length = k - l := by simp; omega
    rw [hlen']
    refine ⟨by rw [length_flatMap hf, hlen'], _, _, rfl, by omega, by omega, ?_⟩
    rcases h4 with ⟨rfl, hs⟩ | ⟨b, o, T, c, h5, rfl, h6, h7, h8⟩
    · left
      obtain rfl : l = 0 := by omega
      simpa using hs
    · by_cases hcl : cap = l
      · left
        refine ⟨by omega, ?_⟩
        simp [hcl]
      · right
        have hadd : (⟨b, o, none⟩ : Addr).add (l * i.size) = ⟨b, o + l * i.size, none⟩ := by unfold Addr.add; split <;> simp_all
        refine ⟨b, o + l * i.size, T, c, by omega, by simp [hcl, hadd], h6, ?_, ?_⟩
        · have : l * i.size + (cap - l) * i.size = cap * i.size := by rw [← Nat.add_mul]; congr 1; omega
          omega
        · rw [← drop_flatMap hf, ← take_flatMap hf, ← h8, ← List.drop_drop, Nat.sub_mul]
          rw [List.take_take, List.drop_take]
          congr 1
          have : k * i.size ≤ xs.length * i.size := Nat.mul_le_mul_right _ hk
          omega
  · cases a with
    | none => simp [live]
    | some a =>
      simp only [live]
      by_cases hcl : cap = l
      · simp [hcl]
      · rw [if_neg hcl]
        simp only [Option.map_some, live]
        have hb : (a.add (l * i.size)).block = a.block := by unfold Addr.add; split <;> rfl
        rw [if_neg (by omega), if_neg (by omega), hb]
        left; rfl
/-- A part of a slice, with nothing behind. -/
theorem sl_slice3 {α : Type} {w : World} {sz by' : Nat} {t e : TypeId} {f : α → List Value} {v : Value} {xs : List α} (h : Sl w sz f v xs) (ht : sliP P t = some (e, sz, by')) {lo hi mx : Option Value} {k : Nat}
    (hk : k ≤ xs.length) (hlo : boundV lo 0 k = some 0) (hhi : boundV hi 0 k = some k) (hmx : ∀ c, xs.length ≤ c → boundV mx 0 c = some k) (hs1 : hi.isSome = true) (hs2 : mx.isSome = true) :
    ∃ v', sliceV P t v lo hi mx = some v' ∧ Sl w sz f v' (xs.take k) ∧ (live v' = live v ∨ live v' = none) ∧ (k = 0 → live v' = none) ∧ (∃ a, v' = .slice a k k) := by
  obtain ⟨i, z, hu, hi', hz, hzs, hs, hb⟩ := sliP_out ht
  subst hs
  obtain ⟨hf, hlen, a, cap, rfl, hn, hm, h4⟩ := h
  obtain ⟨hiv, rfl⟩ := Option.isSome_iff_exists.1 hs1
  obtain ⟨mxv, rfl⟩ := Option.isSome_iff_exists.1 hs2
  refine ⟨.slice (if k = 0 then a else a.map (·.add (0 * i.size))) k k, ?_, ⟨hf, ?_⟩, ?_, ?_, ⟨_, rfl⟩⟩
  · unfold sliceV
    rw [hu]
    simp only [hi', hhi, hlo, hmx cap hn, Nat.sub_zero]
  · have hlen' : (xs.take k).length = k := by simp; omega
    rw [hlen']
    refine ⟨by rw [length_flatMap hf, hlen'], _, _, rfl, by omega, by omega, ?_⟩
    rcases h4 with ⟨rfl, hs⟩ | ⟨b, o, T, c, h5, rfl, h6, h7, h8⟩
    · left
      obtain rfl : k = 0 := by omega
      simpa using hs
    · by_cases hk0 : k = 0
      · left
        refine ⟨hk0, ?_⟩
        simp [hk0]
      · right
        have hadd : (⟨b, o, none⟩ : Addr).add (0 * i.size) = ⟨b, o, none⟩ := by unfold Addr.add; split <;> simp_all
        refine ⟨b, o, T, c, by omega, by rw [if_neg hk0, Option.map_some, hadd], h6, ?_, ?_⟩
        · have : k * i.size ≤ cap * i.size := Nat.mul_le_mul_right _ (by omega)
          omega
        · rw [← take_flatMap hf, ← h8, List.take_take, Nat.min_eq_left (Nat.mul_le_mul_right _ hk)]
  · cases a with
    | none => simp [live]
    | some a =>
      by_cases hk0 : k = 0
      · simp [live, hk0]
      · rw [if_neg hk0]
        simp only [Option.map_some, live]
        have hb : (a.add (0 * i.size)).block = a.block := by unfold Addr.add; split <;> rfl
        rw [if_neg hk0, if_neg (by omega), hb]
        left; rfl
  · intro hk0
    cases a <;> simp [live, hk0]
theorem boundV_nat (k : IntKind) (n d top : Nat) (h : n ≤ top) : boundV (some (.int k n)) d top = some n := by simp [boundV, h]
end
end Go.Al

namespace Go.Al
open Go
section
variable {P : Program}
theorem wrap_succ {i : Nat} (h : i < 4000000000) : IntKind.i64.wrap ((i : Int) + 1) = ((i + 1 : Nat) : Int) := by
  rw [wrap_in (by omega) (by omega)]; rfl
def num : Value → Int
  | .int _ n => n
  | _ => 0
/-- A loop that counts up to n. -/
theorem loop1_up {B : (Value → World → Prop) → Value → World → Prop} {w : World} (n : Nat) (I : Nat → World → Prop) (h : I 0 w)
    (k : ∀ i w ag, (∀ (j : Nat) w', i < j → j ≤ n → I j w' → ag (i64 j) w') → i ≤ n → I i w → B ag (i64 i) w) : pLoop1 B (i64 0) w := by
  have h2 := pLoop1_of (body := B) (x := i64 ((0 : Nat) : Int)) (w := w) (fun a w' => ∃ i : Nat, a = i64 i ∧ i ≤ n ∧ I i w') (fun a _ => (n - num a).toNat) ⟨0, rfl, Nat.zero_le _, h⟩ ?_
  · exact h2
  · rintro a w' ⟨i, rfl, hi, hI⟩
    have e : (fun a' w'' => (∃ i : Nat, a' = i64 i ∧ i ≤ n ∧ I i w'') ∧ ((n : Int) - num a').toNat < ((n : Int) - num (i64 i)).toNat) = (fun a' w'' => ∃ j : Nat, a' = i64 j ∧ i < j ∧ j ≤ n ∧ I j w'') := by
      funext a' w''
      apply propext
      constructor
      · rintro ⟨⟨j, rfl, hj, hIj⟩, hm⟩
        simp only [num, i64] at hm
        exact ⟨j, rfl, by omega, hj, hIj⟩
      · rintro ⟨j, rfl, h1, h2, h3⟩
        refine ⟨⟨j, rfl, h2, h3⟩, ?_⟩
        simp only [num, i64]
        omega
    have h3 := k i w' (fun a' w'' => ∃ j : Nat, a' = i64 j ∧ i < j ∧ j ≤ n ∧ I j w'') (fun j w' h1 h2 h3 => ⟨j, rfl, h1, h2, h3⟩) hi hI
    rw [← e] at h3
    exact h3
theorem loop2_upR {B : (Value → Value → World → Prop) → Value → Value → World → Prop} {x : Value} {w : World} (m n : Nat) (I : Nat → Value → World → Prop) (hm : m ≤ n) (h : I m x w)
    (k : ∀ i x w ag, (∀ (j : Nat) x' w', i < j → j ≤ n → I j x' w' → ag x' (i64 j) w') → m ≤ i → i ≤ n → I i x w → B ag x (i64 i) w) : pLoop2 B x (i64 m) w := by
  refine pLoop2_of (fun x a w' => ∃ i : Nat, a = i64 i ∧ m ≤ i ∧ i ≤ n ∧ I i x w') (fun _ a _ => (n - num a).toNat) ⟨m, rfl, Nat.le_refl _, hm, h⟩ ?_
  rintro x' a w' ⟨i, rfl, hmi, hi, hI⟩
  have e : (fun x'' a' w'' => (∃ i : Nat, a' = i64 i ∧ m ≤ i ∧ i ≤ n ∧ I i x'' w'') ∧ ((n : Int) - num a').toNat < ((n : Int) - num (i64 i)).toNat) = (fun x'' a' w'' => ∃ j : Nat, a' = i64 j ∧ i < j ∧ j ≤ n ∧ I j x'' w'') := by
    funext x'' a' w''
    apply propext
    constructor
    · rintro ⟨⟨j, rfl, _, hj, hIj⟩, hm⟩
      simp only [num, i64] at hm
      exact ⟨j, rfl, by omega, hj, hIj⟩
    · rintro ⟨j, rfl, h1, h2, h3⟩
      refine ⟨⟨j, rfl, by omega, h2, h3⟩, ?_⟩
      simp only [num, i64]
      omega
  have h3 := k i x' w' (fun x'' a' w'' => ∃ j : Nat, a' = i64 j ∧ i < j ∧ j ≤ n ∧ I j x'' w'') (fun j x'' w' h1 h2 h3 => ⟨j, rfl, h1, h2, h3⟩) hmi hi hI
  rw [← e] at h3
  exact h3
theorem loop3_up {B : (Value → Value → Value → World → Prop) → Value → Value → Value → World → Prop} {x y : Value} {w : World} (m n : Nat) (I : Nat → Value → Value → World → Prop) (hm : m ≤ n) (h : I m x y w)
    (k : ∀ i x y w ag, (∀ (j : Nat) x' y' w', i < j → j ≤ n → I j x' y' w' → ag x' y' (i64 j) w') → m ≤ i → i ≤ n → I i x y w → B ag x y (i64 i) w) : pLoop3 B x y (i64 m) w := by
  refine pLoop3_of (fun x y a w' => ∃ i : Nat, a = i64 i ∧ m ≤ i ∧ i ≤ n ∧ I i x y w') (fun _ _ a _ => (n - num a).toNat) ⟨m, rfl, Nat.le_refl _, hm, h⟩ ?_
  rintro x' y' a w' ⟨i, rfl, hmi, hi, hI⟩
  have e : (fun x'' y'' a' w'' => (∃ i : Nat, a' = i64 i ∧ m ≤ i ∧ i ≤ n ∧ I i x'' y'' w'') ∧ ((n : Int) - num a').toNat < ((n : Int) - num (i64 i)).toNat) = (fun x'' y'' a' w'' => ∃ j : Nat, a' = i64 j ∧ i < j ∧ j ≤ n ∧ I j x'' y'' w'') := by
    funext x'' y'' a' w''
    apply propext
    constructor
    · rintro ⟨⟨j, rfl, _, hj, hIj⟩, hm⟩
      simp only [num, i64] at hm
      exact ⟨j, rfl, by omega, hj, hIj⟩
    · rintro ⟨j, rfl, h1, h2, h3⟩
      refine ⟨⟨j, rfl, by omega, h2, h3⟩, ?_⟩
      simp only [num, i64]
      omega
  have h3 := k i x' y' w' (fun x'' y'' a' w'' => ∃ j : Nat, a' = i64 j ∧ i < j ∧ j ≤ n ∧ I j x'' y'' w'') (fun j x'' y'' w' h1 h2 h3 => ⟨j, rfl, h1, h2, h3⟩) hmi hi hI
  rw [← e] at h3
  exact h3
theorem join0 {A : (World → Prop) → World → Prop} {rest : World → Prop} {w : World} (J : World → Prop) (h : ∀ w, J w → rest w) (k : ∀ J', (∀ w, J w → J' w) → A J' w) : pJoin0 A rest w :=
  pJoin0_of J h (k J fun _ h => h)
theorem join1 {A : (Value → World → Prop) → World → Prop} {rest : Value → World → Prop} {w : World} (J : Value → World → Prop) (h : ∀ a w, J a w → rest a w) (k : ∀ J', (∀ a w, J a w → J' a w) → A J' w) : pJoin1 A rest w :=
  pJoin1_of J h (k J fun _ _ h => h)
theorem join2 {A : (Value → Value → World → Prop) → World → Prop} {rest : Value → Value → World → Prop} {w : World} (J : Value → Value → World → Prop) (h : ∀ a b w, J a b w → rest a b w) (k : ∀ J', (∀ a b w, J a b w → J' a b w) → A J' w) : pJoin2 A rest w :=
  pJoin2_of J h (k J fun _ _ _ h => h)
/-- A slice's block is new. -/
def Fresh (w : World) (v : Value) : Prop := ∀ b, live v = some b → w.heap.size ≤ b
theorem Fr.fresh {B : Nat → Prop} {w w1 w2 : World} (h : Fr w w1) (h' : Ch B w1 w2) (hB : ∀ b, B b → w.heap.size ≤ b) : Fr w w2 :=
  Ch.trans h h' fun b hl hb => absurd (hB b hb) (by omega)
theorem Fresh.none {w : World} {v : Value} (h : live v = Option.none) : Fresh w v := fun b hb => by rw [h] at hb; cases hb
theorem Fresh.nil (w : World) : Fresh w (.slice Option.none 0 0) := Fresh.none rfl
/-- An empty slice's literal. -/
theorem pRow0 {α : Type} {t e : TypeId} {sz by' : Nat} {w : World} {f : α → List Value} {K : Value → World → Prop} (ht : sliP P t = some (e, sz, by')) (hf : ∀ x, (f x).length = sz)
    (k : ∀ v w', Sl w' sz f v ([] : List α) → Fr w w' → live v = Option.none → K v w') : pRow P t 0 [] K w := by
  obtain ⟨i, z, hu, hi, hz, hzs, hs, hb⟩ := sliP_out ht
  have he : elemP P t = some (e, sz) := by unfold elemP; rw [hu]; simp only [hi, hs]
  have hr : rowV P e sz 0 [] = some [] := by
    unfold rowV zeroP
    simp [hi, hz, fillA]
  unfold pRow
  rw [he]
  simp only [hr]
  exact k _ _ ⟨hf, by simp, _, _, rfl, Nat.le_refl _, Nat.zero_le _, .inl ⟨rfl, fun x hx => by cases hx; rfl⟩⟩ (Ch.alloc _ _ _) rfl
/-- A literal of some elements. -/
theorem pRowN {α : Type} {t e : TypeId} {sz by' n : Nat} {parts : List (Nat × Value)} {w : World} {f : α → List Value} (xs : List α) {K : Value → World → Prop} (ht : sliP P t = some (e, sz, by')) (hf : ∀ x, (f x).length = sz)
    (hn : n = xs.length) (h63 : n ≤ 1000000000) (hr : rowV P e sz n parts = some (xs.flatMap f))
    (k : ∀ v w', Sl w' sz f v xs → Fr w w' → Fresh w v → K v w') : pRow P t n parts K w := by
  obtain ⟨i, z, hu, hi, hz, hzs, hs, hb⟩ := sliP_out ht
  have he : elemP P t = some (e, sz) := by unfold elemP; rw [hu]; simp only [hi, hs]
  subst hn
  unfold pRow
  rw [he]
  simp only [hr]
  refine k _ _ ⟨hf, by rw [length_flatMap hf], _, _, rfl, Nat.le_refl _, by simp only [maxLen]; omega, ?_⟩ (Ch.alloc _ _ _) (fun b hb => ?_)
  · by_cases h0 : xs.length = 0
    · exact .inl ⟨h0, fun x hx => by cases hx; rfl⟩
    · refine .inr ⟨w.heap.size, 0, e, xs.flatMap f, by omega, rfl, alloc_blk, ?_, ?_⟩
      · rw [length_flatMap hf]; omega
      · rw [List.drop_zero, List.take_of_length_le (by rw [length_flatMap hf]; omega)]
  · simp only [live] at hb
    split at hb
    · cases hb
    · cases hb; exact Nat.le_refl _
/-- slices.Clone -/
theorem clone_of {α : Type} {t e : TypeId} {sz by' : Nat} {w : World} {v : Value} {f : α → List Value} {xs : List α} {R : Value → World → Prop} (ht : sliP P t = some (e, sz, by')) (hk : kindP P t = 5)
    (h : Sl w sz f v xs) (h1 : ∀ y, (f y).all (·.oneCell') = true) (h63 : xs.length ≤ 1000000000) (hby : by' ≤ 100000)
    (k : ∀ v' w', Sl w' sz f v' xs → Fr w w' → Fresh w v' → R v' w') :
    (pVal (binV P .eql t v (.slice none 0 0)) fun v4 => pIf v4 (R (.slice none 0 0)) (pRow P t 0 [] fun v5 => pRoom P (Builtin.append_ #[t, t] t #[v5, v]) fun v7 => R v7)) w := by
  obtain ⟨a, cap, rfl⟩ := h.2.shape
  rw [binV_slice_eql hk, pVal_some, pIf_bool]
  cases a with
  | none =>
    have hx : xs = [] := by
      obtain ⟨_, a', cap', he, h2, h3, h4⟩ := h.2
      cases he
      rcases h4 with ⟨rfl, _⟩ | ⟨b, o, T, l, h5, he, _⟩
      · exact List.eq_nil_of_length_eq_zero (by omega)
      · cases he
    subst hx
    simp only [Option.isNone_none, if_true]
    exact k _ _ (Sl.nil _ h.1) (Ch.refl _ _) (Fresh.nil _)
  | some a =>
    simp only [Option.isNone_some, Bool.false_eq_true, if_false]
    refine pRow0 (f := f) ht h.1 fun v5 w1 hs hfr hl => ?_
    refine pAppend ht hs (h.fr hfr) h1 (by simpa using h63) hby fun v' w2 hs2 hc hl2 => ?_
    refine k v' w2 (by simpa using hs2) (hfr.trans (hc.mono fun b _ hb => by rw [hl] at hb; cases hb)) ?_
    rcases hl2 with hl2 | ⟨b, hb, hle⟩
    · exact Fresh.none (by rw [hl2, hl])
    · intro c hc'
      rw [hb] at hc'
      cases hc'
      exact Nat.le_trans hfr.size hle
end
end Go.Al

namespace Go.Al
open Go
section
variable {P : Program}
/-- An element of an array's value. -/
theorem pIndexA {T e : TypeId} {len n : Nat} {g : Bool} {cs : Array Value} {kk : IntKind} {i : Int} {K : Value → World → Prop} {w : World} (v : Value) (hu : P.underlying T = some (.array len e)) (hl : lay P e = some (g, n))
    (h0 : 0 ≤ i) (h1 : i < len) (hv : partV g (i.toNat * n) n cs.toList = some v) (k : K v w) : pRun P (Instr.index T (.agg cs) (.int kk i)) K w := by
  have hs : ∃ d inf, P.underlying e = some d ∧ P.info? e = some inf ∧ inf.size = n := by
    obtain ⟨d, inf, h1, h2, h3, _⟩ := lay_out hl; exact ⟨d, inf, h1, h2, h3⟩
  obtain ⟨d, inf, hd, hi, hn⟩ := hs
  have hp := run_part hl hv w
  unfold pRun okThen
  have : (Instr.index T (.agg cs) (.int kk i)).run P w = .ok v w := by
    unfold Instr.index
    simp [asIntOf, run_underlying hu, h0, h1, sizeOf, typeInfo, hi, hn, hp, Result.andThen]
  rw [this]
  exact k
theorem pResN {w : World} {b : Nat} {T t : TypeId} {l : List Value} {n : Nat} {K : Value → World → Prop} (h : Blk w b T l) (ht : lay P t = some (true, n)) (hl : l.length = n) (k : K (.agg l.toArray) w) : pRes P t (ptr b 0) K w := by
  unfold pRes
  have hr : rd P t w (ptr b 0) = some (.agg l.toArray) := rdN h ht (by omega) (by rw [List.drop_zero, List.take_of_length_le (by omega)])
  exact ⟨_, by first | exact hr | exact run_rd hr, k⟩
theorem Sl.cells {α : Type} {w : World} {sz : Nat} {f : α → List Value} {v : Value} {xs : List α} (h : Sl w sz f v xs) : v.cells = #[v] := by
  obtain ⟨a, c, rfl⟩ := h.2.shape; rfl
theorem Sl.cell1 {α : Type} {w : World} {sz : Nat} {f : α → List Value} {v : Value} {xs : List α} (h : Sl w sz f v xs) : v.cells.toList = [v] := by
  obtain ⟨a, c, rfl⟩ := h.2.shape; rfl
theorem Sl.one {α : Type} {w : World} {sz : Nat} {f : α → List Value} {v : Value} {xs : List α} (h : Sl w sz f v xs) : v.oneCell' = true := by
  obtain ⟨a, c, rfl⟩ := h.2.shape; rfl
theorem Sl.same' {α : Type} {B : Nat → Prop} {w w' : World} {sz : Nat} {f : α → List Value} {v : Value} {xs : List α} (h : Sl w sz f v xs) (hc : Ch B w w') (hb : ∀ b, live v = some b → ¬ B b) : Sl w' sz f v xs := h.ch hc hb
/-- A function's value is called. -/
theorem pCallV_of {f : FuncId} {first captured : Array Value} {args : List Value} {K : Value → World → Prop} {w : World} (h : pCall P f (first.toList ++ args ++ captured.toList) K w) : pCallV P (.func (.func f) first captured) args K w := by
  unfold pCallV
  unfold pCall at h
  have e : (first.toList ++ args ++ captured.toList).toArray = first ++ args.toArray ++ captured := by apply Array.ext'; simp
  rw [e] at h
  exact h
theorem Ch.keep {B C : Nat → Prop} {w w' : World} {γ : Col} (h : Ch B w w') (hw : Wf w γ) (hc : ∀ b, b < w.heap.size → B b → C (γ b)) : Keep C w γ w' γ :=
  ⟨h.mono hc, fun _ _ => rfl, fun b hb => hw b (Nat.le_trans h.size hb)⟩
/-- All blocks of a range are given a colour. -/
def Col.fill (γ : Col) (lo hi c : Nat) : Col := fun x => if lo ≤ x ∧ x < hi then c else γ x
theorem Col.fill_in {γ : Col} {lo hi c x : Nat} (h1 : lo ≤ x) (h2 : x < hi) : γ.fill lo hi c x = c := by unfold Col.fill; rw [if_pos ⟨h1, h2⟩]
theorem Col.fill_out {γ : Col} {lo hi c x : Nat} (h : x < lo) : γ.fill lo hi c x = γ x := by unfold Col.fill; rw [if_neg (by omega)]
theorem Col.paint_same {γ : Col} {b c : Nat} : γ.paint b c b = c := by unfold Col.paint; rw [if_pos rfl]
theorem Col.paint_other {γ : Col} {b c x : Nat} (h : x ≠ b) : γ.paint b c x = γ x := by unfold Col.paint; rw [if_neg h]
theorem Keep.fill {C : Nat → Prop} {w w' : World} {γ γ' : Col} (h : Keep C w γ w' γ') {lo hi c : Nat} (hb : w.heap.size ≤ lo) (hl : hi ≤ w'.heap.size) : Keep C w γ w' (γ'.fill lo hi c) :=
  ⟨h.ch, fun x hx => by unfold Col.fill; rw [if_neg (by omega)]; exact h.col x hx, fun x hx => by unfold Col.fill; rw [if_neg (by omega)]; exact h.wf x hx⟩
/-- Something new was made with no colours told: they are put over those that were. -/
def Col.over (γ γ' : Col) (n : Nat) : Col := fun x => if x < n then γ x else γ' x
theorem Keep.fresh {C : Nat → Prop} {w w' : World} {γ γ' : Col} (h : Keep C w (fun _ => 0) w' γ') (hw : Wf w γ) (hC : ¬ C 0) : Keep (fun _ => False) w γ w' (γ.over γ' w.heap.size) ∧ ∀ x, γ' x ≠ 0 → γ.over γ' w.heap.size x = γ' x := by
  refine ⟨⟨⟨h.size, fun x hx _ => h.ch.same x hx hC, h.ch.os, h.ch.output⟩, fun x hx => ?_, fun x hx => ?_⟩, fun x hx => ?_⟩
  · unfold Col.over; rw [if_pos hx]
  · unfold Col.over; rw [if_neg (by have := h.size; omega)]; exact h.wf x hx
  · unfold Col.over
    rw [if_neg]
    intro hlt
    exact hx (h.col x hlt)
theorem Wf.zero (w : World) : Wf w (fun _ => 0) := fun _ _ => rfl
theorem take_splice' {l d : List Value} {o n : Nat} (hd : d.length = n) (hl : o + n ≤ l.length) : ((splice l o d).drop o).take n = d := by
  unfold splice
  have : (l.take o).length = o := by simp; omega
  rw [List.drop_append_of_le_length (by omega), List.drop_take, Nat.sub_self]
  simp [← hd]
theorem zero_cells {α : Type} {f : α → List Value} {x : α} {z : Value} (hx : f x = z.cells.toList) (hsz : 0 < z.cells.size) (n : Nat) : (Builtin.zeroCells z.cells n).toList = (List.replicate n x).flatMap f := by
  rw [flatMap_replicate, hx]
  have := made_cells z.cells.toList (by simpa using hsz) n
  rw [← this]
  simp [Builtin.zeroCells]
/-- A slice is cleared. -/
theorem pClear {α : Type} {t e : TypeId} {ty : TypeId} {sz by' : Nat} {w : World} {v z : Value} {f : α → List Value} {xs : List α} {x : α} {K : Value → World → Prop} (ht : sliP P t = some (e, sz, by'))
    (hz : zeroP P e = some z) (hx : f x = z.cells.toList) (hsz : 0 < sz) (h1 : (f x).all (·.oneCell') = true) (h : Sl w sz f v xs)
    (k : ∀ w', Ch (fun b => live v = some b) w w' → Sl w' sz f v (List.replicate xs.length x) → K (.tuple #[]) w') : pRun P (Builtin.clear_ #[t] ty #[v]) K w := by
  obtain ⟨i, z', hu, hi, hz', hzs, hs, hb⟩ := sliP_out ht
  have hzz : z' = z := by
    unfold zeroP at hz
    rw [hi] at hz
    simp only at hz
    rw [hz'] at hz
    exact Option.some.inj hz
  subst hzz
  subst hs
  obtain ⟨hf, hlen, a, cap, rfl, hn, hm, h4⟩ := id h
  unfold pRun okThen
  by_cases h0 : xs.length = 0
  · have hr : (Builtin.clear_ #[t] ty #[.slice a xs.length cap]).run P w = .ok (.tuple #[]) w := by
      rw [h0]
      cases a <;> simp [Builtin.clear_, run_underlying hu]
    rw [hr]
    have hnil : xs = [] := List.eq_nil_of_length_eq_zero h0
    subst hnil
    exact k w (Ch.refl _ _) h
  · rcases h4 with ⟨rfl, _⟩ | ⟨b, o, T, l, h5, rfl, h6, h7, h8⟩
    · omega
    · have hfit : xs.length * i.size ≤ cap * i.size := Nat.mul_le_mul_right _ hn
      have hzc := zero_cells (x := x) hx (by omega) xs.length
      have hzl : (Builtin.zeroCells z'.cells xs.length).toList.length = xs.length * i.size := by rw [hzc, length_flatMap hf, List.length_replicate]
      obtain ⟨f6, h6, ht6⟩ := h6
      have hst := run_storeCells_splice (P := P) o (Builtin.zeroCells z'.cells xs.length).toList 0 l w h6 ht6 (by simp only [hzl]; omega) (by
        rw [hzc]; intro u hu'
        obtain ⟨y, hy, hy2⟩ := List.mem_flatMap.1 hu'
        rw [List.eq_of_mem_replicate hy] at hy2
        exact List.all_eq_true.1 h1 u hy2)
      simp only [Nat.add_zero] at hst
      have hr : (Builtin.clear_ #[t] ty #[.slice (some ⟨b, o, none⟩) xs.length cap]).run P w = .ok (.tuple #[]) (World.putB w b (.cells (splice l o ((List.replicate xs.length x).flatMap f)).toArray T f6)) := by
        rw [hzc] at hst
        have hzc2 : Builtin.zeroCells z'.cells xs.length = ((List.replicate xs.length x).flatMap f).toArray := by rw [← hzc]
        unfold Builtin.clear_
        simp only [List.getElem?_toArray, List.getElem?_cons_zero]
        simp [run_underlying hu, zeroValue, typeInfo, hi, hz', hzc2, hst, h0]
      rw [hr]
      have hlr : ((List.replicate xs.length x).flatMap f).length = xs.length * i.size := by rw [length_flatMap hf, List.length_replicate]
      have hblk : Blk (World.putB w b (.cells (splice l o ((List.replicate xs.length x).flatMap f)).toArray T f6)) b T (splice l o ((List.replicate xs.length x).flatMap f)) := ⟨f6, putB_same (Array.getElem?_eq_some_iff.1 h6).1, by rw [length_splice (by rw [hlr]; omega)]; exact ht6⟩
      refine k _ ⟨by rw [putB_size]; omega, fun c hc hn => putB_other fun he => hn (by subst he; simp [live]; omega), rfl, rfl⟩ ⟨hf, ?_⟩
      refine ⟨by rw [length_flatMap hf], _, _, by rw [List.length_replicate], by rw [List.length_replicate]; exact hn, hm, .inr ⟨b, o, T, _, h5, rfl, hblk, ?_, ?_⟩⟩
      · rw [length_splice (by rw [hlr]; omega)]; exact h7
      · rw [List.length_replicate]
        exact take_splice' hlr (by omega)
end
end Go.Al

namespace Go.Al
open Go
section
variable {P : Program}
abbrev IMap := List (Int × Value)
def mget (m : IMap) (k : Int) : Option Value := (m.find? fun p => decide (p.1 = k)).map (·.2)
def mput : IMap → Int → Value → IMap
  | [], k, v => [(k, v)]
  | p :: m, k, v => if p.1 = k then (k, v) :: m else p :: mput m k v
theorem mget_mput (m : IMap) (k j : Int) (v : Value) : mget (mput m k v) j = if j = k then some v else mget m j := by
  induction m with
  | nil => by_cases h : j = k <;> simp [mget, mput, h]; intro e; exact absurd e.symm h
  | cons p m ih =>
    unfold mput
    by_cases hp : p.1 = k
    · rw [if_pos hp]
      by_cases h : j = k
      · simp [mget, h]
      · have h1 : ¬ k = j := fun e => h e.symm
        have h2 : ¬ p.1 = j := fun e => h (by rw [← e, hp])
        simp [mget, h, h1, h2]
    · rw [if_neg hp]
      by_cases hj : p.1 = j
      · have : ¬ j = k := fun e => hp (by rw [hj, e])
        simp [mget, hj, this]
      · have e1 : mget (p :: mput m k v) j = mget (mput m k v) j := by simp [mget, hj]
        have e2 : mget (p :: m) j = mget m j := by simp [mget, hj]
        rw [e1, e2, ih]
theorem mget_none {m : IMap} {k : Int} : mget m k = none ↔ k ∉ m.map (·.1) := by
  unfold mget
  rw [Option.map_eq_none_iff, List.find?_eq_none]
  simp only [decide_eq_true_eq, List.mem_map, not_exists, not_and]
theorem mget_mem {m : IMap} (hn : (m.map (·.1)).Nodup) {p : Int × Value} (hp : p ∈ m) : mget m p.1 = some p.2 := by
  induction m with
  | nil => cases hp
  | cons q m ih =>
    rw [List.map_cons, List.nodup_cons] at hn
    rcases List.mem_cons.1 hp with rfl | h
    · simp [mget]
    · have : ¬ q.1 = p.1 := fun e => hn.1 (by rw [e]; exact List.mem_map.2 ⟨p, h, rfl⟩)
      have e : mget (q :: m) p.1 = mget m p.1 := by simp [mget, this]
      rw [e]; exact ih hn.2 h
def entryOf (e : MapEntry) : Value × Value := (e.key, e.val)
def pairOf (p : Int × Value) : Value × Value := (i64 p.1, p.2)
/-- A map in memory. -/
def MapAt (w : World) (b : Nat) (E : Array MapEntry) (clock : Nat) (m : IMap) : Prop :=
  w.heap[b]? = some (.map E clock) ∧ MapKept.Stamped E clock ∧ E.toList.map entryOf = m.map pairOf
def MapR (w : World) (b : Nat) (m : IMap) : Prop := ∃ E clock, MapAt w b E clock m
theorem MapR.lt {w : World} {b : Nat} {m : IMap} (h : MapR w b m) : b < w.heap.size := by
  obtain ⟨E, clock, h1, _⟩ := h
  exact (Array.getElem?_eq_some_iff.1 h1).1
theorem MapR.ch {B : Nat → Prop} {w w' : World} {b : Nat} {m : IMap} (h : MapR w b m) (hc : Ch B w w') (hb : ¬ B b) : MapR w' b m := by
  have hl := h.lt
  obtain ⟨E, clock, h1, h2, h3⟩ := h
  exact ⟨E, clock, (hc.same b hl hb).trans h1, h2, h3⟩
theorem MapR.fr {w w' : World} {b : Nat} {m : IMap} (h : MapR w b m) (hc : Fr w w') : MapR w' b m := h.ch hc fun h => h
theorem MapAt.get {w : World} {b : Nat} {E : Array MapEntry} {clock : Nat} {m : IMap} (h : MapAt w b E clock m) {j : Nat} {e : MapEntry} (he : E.toList[j]? = some e) : ∃ p, m[j]? = some p ∧ e.key = i64 p.1 ∧ e.val = p.2 := by
  have h1 := congrArg (·[j]?) h.2.2
  simp only [List.getElem?_map, he, Option.map_some] at h1
  cases hm : m[j]? with
  | none => rw [hm] at h1; cases h1
  | some p => rw [hm] at h1; simp only [Option.map_some, Option.some.injEq, entryOf, pairOf, Prod.mk.injEq] at h1; exact ⟨p, rfl, h1.1, h1.2⟩
theorem MapAt.put {w : World} {b : Nat} {E : Array MapEntry} {clock : Nat} {m : IMap} (h : MapAt w b E clock m) {j : Nat} {p : Int × Value} (hp : m[j]? = some p) : ∃ e, E.toList[j]? = some e ∧ e.key = i64 p.1 ∧ e.val = p.2 := by
  have h1 := congrArg (·[j]?) h.2.2
  simp only [List.getElem?_map, hp, Option.map_some] at h1
  cases hm : E.toList[j]? with
  | none => rw [hm] at h1; cases h1
  | some e => rw [hm] at h1; simp only [Option.map_some, Option.some.injEq, entryOf, pairOf, Prod.mk.injEq] at h1; exact ⟨e, rfl, h1.1, h1.2⟩
theorem MapAt.keys {w : World} {b : Nat} {E : Array MapEntry} {clock : Nat} {m : IMap} (h : MapAt w b E clock m) : ∀ x ∈ E.toList, MapKept.IsKey (.int .i64) x.key := by
  intro x hx
  obtain ⟨j, hj⟩ := List.getElem?_of_mem hx
  obtain ⟨p, _, h1, _⟩ := h.get hj
  rw [h1]; rfl
theorem MapAt.nodup {w : World} {b : Nat} {E : Array MapEntry} {clock : Nat} {m : IMap} (h : MapAt w b E clock m) : (m.map (·.1)).Nodup := by
  have h1 : E.toList.map (·.key) = (m.map (·.1)).map i64 := by
    have := congrArg (List.map (·.1)) h.2.2
    simpa [List.map_map, Function.comp_def, entryOf, pairOf] using this
  have h2 := h.2.1.2.2
  rw [h1] at h2
  exact (List.pairwise_map.1 h2).imp fun h e => h (by rw [e])
/-- A map's type. -/
def mapP (P : Program) (t : TypeId) : Option (TypeId × TypeId) := match P.underlying t with | some (.map k e) => (match P.underlying k with | some (.int .i64) => some (k, e) | _ => none) | _ => none
theorem mapP_out {t k e : TypeId} (h : mapP P t = some (k, e)) : P.underlying t = some (.map k e) ∧ P.underlying k = some (.int .i64) := by
  unfold mapP at h
  split at h
  · rename_i k' e' hu
    split at h
    · rename_i hk; cases h; exact ⟨hu, hk⟩
    · cases h
  · cases h
/-- A new map. -/
theorem pMakeM {t : TypeId} {w : World} {K : Value → World → Prop} (k : ∀ b w', b = w.heap.size → b < w'.heap.size → Fr w w' → MapR w' b [] → K (.map (some b)) w') : pRun P (Instr.makeMap t none) K w := by
  unfold pRun okThen
  have hr : (Instr.makeMap t none).run P w = .ok (.map (some w.heap.size)) (w.alloc (.map #[] 0)) := by simp [Instr.makeMap, Result.andThen]
  rw [hr]
  exact k _ _ rfl (by rw [World.size_alloc]; omega) (Ch.alloc _ _ _) ⟨#[], 0, heap_alloc_new w _, MapKept.stamped_empty 0, rfl⟩
theorem find_key {w : World} {b : Nat} {E : Array MapEntry} {clock : Nat} {m : IMap} (h : MapAt w b E clock m) (k : Int) :
    (Instr.findNow (.int .i64) (i64 k) E.toList 0 = some none ∧ mget m k = none) ∨ ∃ j e p, Instr.findNow (.int .i64) (i64 k) E.toList 0 = some (some (j, e.val)) ∧ E.toList[j]? = some e ∧ e.key = i64 k ∧ m[j]? = some p ∧ p.1 = k ∧ p.2 = e.val ∧ mget m k = some e.val := by
  rcases MapKept.findNow_spec (d := .int .i64) (k := i64 k) rfl E.toList 0 h.keys with ⟨h1, h2⟩ | ⟨j, e, h1, h2, h3⟩
  · refine .inl ⟨h1, mget_none.2 fun hm => ?_⟩
    obtain ⟨p, hp, hpk⟩ := List.mem_map.1 hm
    obtain ⟨j, hj⟩ := List.getElem?_of_mem hp
    obtain ⟨e, he, hk, _⟩ := h.put hj
    exact h2 e (List.mem_of_getElem? he) (by rw [hk, hpk])
  · obtain ⟨p, hp, hk, hv⟩ := h.get h2
    have hpk : p.1 = k := by rw [h3] at hk; cases hk; rfl
    rw [Nat.zero_add] at h1
    exact .inr ⟨j, e, p, h1, h2, h3, hp, hpk, hv.symm, by have := mget_mem h.nodup (List.mem_of_getElem? hp); rw [hpk] at this; rw [this, hv]⟩
theorem run_zeroP {t : TypeId} {z : Value} (h : zeroP P t = some z) (w : World) : (zeroValue t).run P w = .ok z w := by
  obtain ⟨i, h1, h2⟩ := zeroP_out h
  simp [zeroValue, typeInfo, h1, h2, Result.andThen]
/-- A map is asked. -/
theorem pLook {t kt et : TypeId} {w : World} {b : Nat} {m : IMap} {k : Int} {z : Value} {K : Value → World → Prop} (ht : mapP P t = some (kt, et)) (hz : zeroP P et = some z) (h : MapR w b m) (kk : K ((mget m k).getD z) w) :
    pRun P (Instr.lookup t (.map (some b)) (i64 k) false) K w := by
  obtain ⟨hm, hk⟩ := mapP_out ht
  obtain ⟨E, clock, h⟩ := h
  unfold pRun okThen
  rcases find_key h k with ⟨h1, h2⟩ | ⟨j, e, p, h1, h2, h3, h4, h5, h6, h7⟩
  · have hr : (Instr.lookup t (.map (some b)) (i64 k) false).run P w = .ok z w := by
      simp [Instr.lookup, run_underlying hm, MapKept.run_getObj_map h.1, MapKept.run_checkKey (P := P) (k := i64 k) hk rfl, MapKept.run_findKey hk h1, run_zeroP hz, Result.andThen]
    rw [hr]; rw [h2] at kk; exact kk
  · have hr : (Instr.lookup t (.map (some b)) (i64 k) false).run P w = .ok e.val w := by
      simp [Instr.lookup, run_underlying hm, MapKept.run_getObj_map h.1, MapKept.run_checkKey (P := P) (k := i64 k) hk rfl, MapKept.run_findKey hk h1, Result.andThen]
    rw [hr]; rw [h7] at kk; exact kk
theorem mput_at {m : IMap} {k : Int} {v : Value} {j : Nat} {p : Int × Value} (hn : (m.map (·.1)).Nodup) (hj : m[j]? = some p) (hp : p.1 = k) : mput m k v = m.set j (k, v) := by
  induction m generalizing j with
  | nil => simp at hj
  | cons q m ih =>
    cases j with
    | zero =>
      simp only [List.getElem?_cons_zero, Option.some.injEq] at hj
      subst hj
      simp [mput, hp]
    | succ j =>
      simp only [List.getElem?_cons_succ] at hj
      rw [List.map_cons, List.nodup_cons] at hn
      have : ¬ q.1 = k := fun e => hn.1 (by rw [e, ← hp]; exact List.mem_map.2 ⟨p, List.mem_of_getElem? hj, rfl⟩)
      simp [mput, this, ih hn.2 hj]
theorem mput_new {m : IMap} {k : Int} {v : Value} (h : mget m k = none) : mput m k v = m ++ [(k, v)] := by
  induction m with
  | nil => rfl
  | cons q m ih =>
    rw [mget_none] at h
    simp only [List.map_cons, List.mem_cons, not_or] at h
    have : ¬ q.1 = k := fun e => h.1 e.symm
    simp [mput, this, ih (mget_none.2 h.2)]
/-- A map is written. -/
theorem pPutM {t kt et : TypeId} {w : World} {b : Nat} {m : IMap} {k : Int} {v : Value} {K : World → Prop} (ht : mapP P t = some (kt, et)) (h : MapR w b m) (kk : ∀ w', Ch (· = b) w w' → MapR w' b (mput m k v) → K w') :
    pDo P (Instr.mapUpdate t (.map (some b)) (i64 k) v) K w := by
  obtain ⟨hm, hk⟩ := mapP_out ht
  obtain ⟨E, clock, h⟩ := h
  unfold pDo okThen
  have hch : ∀ o, Ch (· = b) w { w with heap := w.heap.setIfInBounds b o } := fun o => ⟨by simp, fun c _ hn => (MapKept.heap_set h.1).2 c hn, rfl, rfl⟩
  rcases find_key h k with ⟨h1, h2⟩ | ⟨j, e, p, h1, h2, h3, h4, h5, h6, h7⟩
  · have hr : (Instr.mapUpdate t (.map (some b)) (i64 k) v).run P w = .ok () { w with heap := w.heap.setIfInBounds b (.map (E.push { key := i64 k, val := v, born := clock }) (clock + 1)) } := by
      simp [Instr.mapUpdate, run_underlying hm, MapKept.run_getObj_map h.1, MapKept.run_checkKey (P := P) (k := i64 k) hk rfl, MapKept.run_findKey hk h1, MapKept.run_setObj_map _ h.1, Result.andThen]
    rw [hr]
    refine kk _ (hch _) ⟨_, _, (MapKept.heap_set h.1).1, MapKept.stamped_push h.2.1 fun x hx he => ?_, ?_⟩
    · obtain ⟨j, hj⟩ := List.getElem?_of_mem hx
      obtain ⟨p, hp, hpk, _⟩ := h.get hj
      rw [he] at hpk
      cases hpk
      exact (mget_none.1 h2) (List.mem_map.2 ⟨p, List.mem_of_getElem? hp, rfl⟩)
    · rw [mput_new h2, Array.toList_push, List.map_append, List.map_append, h.2.2]; rfl
  · have hj : E[j]? = some e := by simpa using h2
    have hr : (Instr.mapUpdate t (.map (some b)) (i64 k) v).run P w = .ok () { w with heap := w.heap.setIfInBounds b (.map (E.modify j fun x => { x with key := i64 k, val := v }) clock) } := by
      simp [Instr.mapUpdate, run_underlying hm, MapKept.run_getObj_map h.1, MapKept.run_checkKey (P := P) (k := i64 k) hk rfl, MapKept.run_findKey hk h1, hj, h3, MapKept.run_keyThatStays (P := P) (d := .int .i64) (k := i64 k) rfl, MapKept.run_setObj_map _ h.1, Result.andThen]
    rw [hr]
    have hkey : ∀ e', E[j]? = some e' → ({ e' with key := i64 k, val := v } : MapEntry).key = e'.key := fun e' he' => by rw [hj] at he'; cases he'; exact h3.symm
    refine kk _ (hch _) ⟨_, _, (MapKept.heap_set h.1).1, MapKept.stamped_modify h.2.1 _ _ (fun _ _ => rfl) (fun e' _ he' => hkey e' he'), ?_⟩
    rw [mput_at h.nodup h4 h5, List.map_set, ← h.2.2]
    apply List.ext_getElem?
    intro i
    simp only [List.getElem?_map, Array.getElem?_toList, Array.getElem?_modify, List.getElem?_set]
    by_cases hij : j = i
    · subst hij
      have hl : j < (E.toList.map entryOf).length := by rw [List.length_map]; exact (List.getElem?_eq_some_iff.1 h2).1
      simp [hj, entryOf, pairOf]
      simpa using (Array.getElem?_eq_some_iff.1 hj).1
    · simp [hij]
end
end Go.Al

namespace Go.Al
open Go
section
variable {P : Program}
theorem bytes_flat {f : UInt8 → List Value} (hf : ∀ b, f b = [.int .u8 b.toNat]) : ∀ s : List UInt8, s.flatMap f = s.map fun b => Value.int .u8 b.toNat
  | [] => rfl
  | a :: l => by rw [List.flatMap_cons, hf, bytes_flat hf l]; rfl
/-- '[]byte(s)' -/
theorem pBytesOf {w : World} {src dst e : TypeId} {s : List UInt8} {f : UInt8 → List Value} {K : Value → World → Prop} (hs : P.underlying src = some .string) (hd : P.underlying dst = some (.slice e)) (he : P.underlying e = some (.int .u8))
    (hf : ∀ b, f b = [.int .u8 b.toNat]) (hl : s.length ≤ 1000000000) (k : ∀ v w', Sl w' 1 f v s → Fr w w' → Fresh w v → K v w') : pRun P (convert src dst (.string ⟨s.toArray⟩)) K w := by
  unfold pRun okThen
  rw [run_bytes_of_string w src dst e ⟨s.toArray⟩ hs hd he]
  have hsz : (⟨s.toArray⟩ : ByteArray).size = s.length := rfl
  have hf1 : ∀ x, (f x).length = 1 := fun x => by rw [hf]; rfl
  have hge := grownCap_ge w s.length 0 e
  have hcm := grownCap_le_maxLen w s.length 0 e (by simp only [maxLen]; omega)
  rw [hsz]
  obtain ⟨cap, hcap⟩ : ∃ cap, cap = grownCap w s.length 0 e := ⟨_, rfl⟩
  rw [← hcap] at hge hcm ⊢
  have hrow : (bytesRow ⟨s.toArray⟩ cap).toList = s.flatMap f ++ List.replicate (cap - s.length) (.int .u8 0) := by
    unfold bytesRow
    have := bytes_flat hf s
    rw [this]
    simp [hsz]
  have hblk : Blk (w.drew.alloc (.cells (bytesRow ⟨s.toArray⟩ cap) e ((bytesRow ⟨s.toArray⟩ cap).size, (bytesRow ⟨s.toArray⟩ cap).size + 1))) w.heap.size e (bytesRow ⟨s.toArray⟩ cap).toList :=
    ⟨_, by simpa using heap_alloc_new w.drew _, .inr (by simp)⟩
  refine k _ _ ⟨hf1, by rw [length_flatMap hf1], some ⟨w.heap.size, 0, none⟩, cap, by simp, hge, hcm, ?_⟩ ((Ch.drew _ _).trans (Ch.alloc _ _ _) fun _ _ h => h) ?_
  · by_cases h0 : cap = 0
    · exact .inl ⟨h0, fun x hx => by cases hx; rfl⟩
    · refine .inr ⟨w.heap.size, 0, e, _, by omega, rfl, hblk, ?_, ?_⟩
      · rw [hrow, List.length_append, length_flatMap hf1]; simp; omega
      · rw [hrow, List.drop_zero, ← length_flatMap hf1, List.take_left]
  · intro b hb
    simp only [live] at hb
    split at hb
    · cases hb
    · cases hb; exact Nat.le_refl _
/-- 'string(b)' -/
theorem pStringOf {w : World} {src dst e : TypeId} {v : Value} {s : List UInt8} {f : UInt8 → List Value} {K : Value → World → Prop} (hs : P.underlying src = some (.slice e)) (hd : P.underlying dst = some .string) (he : P.underlying e = some (.int .u8))
    (hf : ∀ b, f b = [.int .u8 b.toNat]) (h : Sl w 1 f v s) (k : K (.string ⟨s.toArray⟩) w) : pRun P (convert src dst v) K w := by
  unfold pRun okThen
  obtain ⟨hf1, hlen, a, cap, rfl, h2, h3, h4⟩ := id h
  cases a with
  | none =>
    have hx : s = [] := by
      rcases h4 with ⟨rfl, _⟩ | ⟨b, o, T, l, h5, he, _⟩
      · exact List.eq_nil_of_length_eq_zero (by omega)
      · cases he
    subst hx
    rw [run_convert_bytes_string w src dst e none _ cap hs he hd]
    simp [Conv.bytesToString]
    exact k
  | some a =>
    obtain ⟨b, o, sp⟩ := a
    have hsp : sp = none := by
      rcases h4 with ⟨_, h⟩ | ⟨b', o', T, l, h5, he, h6, h7, h8⟩
      · exact h _ rfl
      · cases he; rfl
    subst hsp
    rw [run_convert_bytes_back w src dst e ⟨b, o, none⟩ cap s hs he hd]
    · exact k
    · intro j hj
      refine h.2.cells j _ ?_
      have h9 := bytes_flat hf s
      rw [h9]
      simp [hj]
end
end Go.Al

namespace Go.Al
open Go Go.Proofs
noncomputable abbrev P : Program := Tryz.prog
def ag : List Nat := [25, 43, 54, 88]
theorem mixed : P.follows .mixedOrders = true := by decide +kernel
@[simp] theorem und_2 : P.underlying 2 = some (.int .i64) := by kernel_rfl
@[simp] theorem und_3 : P.underlying 3 = some (.int .i64) := by kernel_rfl
@[simp] theorem und_5 : P.underlying 5 = some (.int .u8) := by kernel_rfl
@[simp] theorem und_9 : P.underlying 9 = some .string := by kernel_rfl
@[simp] theorem und_21 : P.underlying 21 = some (.int .i32) := by kernel_rfl
@[simp] theorem elem_24 : elemP P 24 = some (3, 1) := by kernel_rfl
@[simp] theorem und_24 : P.underlying 24 = some (.slice 3) := by kernel_rfl
@[simp] theorem und_25 : P.underlying 25 = some (.array 4 24) := by kernel_rfl
@[simp] theorem elem_28 : elemP P 28 = some (32, 8) := by kernel_rfl
@[simp] theorem und_28 : P.underlying 28 = some (.slice 32) := by kernel_rfl
@[simp] theorem und_35 : P.underlying 35 = some (.int .i64) := by kernel_rfl
@[simp] theorem und_54 : P.underlying 54 = some (.array 4 53) := by kernel_rfl
@[simp] theorem elem_74 : elemP P 74 = some (88, 3) := by kernel_rfl
@[simp] theorem und_74 : P.underlying 74 = some (.slice 88) := by kernel_rfl
@[simp] theorem elem_77 : elemP P 77 = some (79, 8) := by kernel_rfl
@[simp] theorem und_77 : P.underlying 77 = some (.slice 79) := by kernel_rfl
@[simp] theorem und_101 : P.underlying 101 = some (.array 4 100) := by kernel_rfl
@[simp] theorem elem_125 : elemP P 125 = some (132, 4) := by kernel_rfl
@[simp] theorem und_125 : P.underlying 125 = some (.slice 132) := by kernel_rfl
@[simp] theorem elem_130 : elemP P 130 = some (260, 3) := by kernel_rfl
@[simp] theorem und_130 : P.underlying 130 = some (.slice 260) := by kernel_rfl
@[simp] theorem und_139 : P.underlying 139 = some (.array 4 97) := by kernel_rfl
@[simp] theorem elem_141 : elemP P 141 = some (35, 1) := by kernel_rfl
@[simp] theorem und_141 : P.underlying 141 = some (.slice 35) := by kernel_rfl
@[simp] theorem und_153 : P.underlying 153 = some (.array 4 152) := by kernel_rfl
@[simp] theorem und_158 : P.underlying 158 = some (.int .u32) := by kernel_rfl
@[simp] theorem elem_165 : elemP P 165 = some (30, 3) := by kernel_rfl
@[simp] theorem und_165 : P.underlying 165 = some (.slice 30) := by kernel_rfl
@[simp] theorem elem_203 : elemP P 203 = some (184, 10) := by kernel_rfl
@[simp] theorem und_203 : P.underlying 203 = some (.slice 184) := by kernel_rfl
@[simp] theorem elem_207 : elemP P 207 = some (248, 3) := by kernel_rfl
@[simp] theorem und_207 : P.underlying 207 = some (.slice 248) := by kernel_rfl
@[simp] theorem und_216 : P.underlying 216 = some (.array 4 176) := by kernel_rfl
@[simp] theorem und_223 : P.underlying 223 = some (.array 64 222) := by kernel_rfl
@[simp] theorem elem_224 : elemP P 224 = some (24, 1) := by kernel_rfl
@[simp] theorem und_224 : P.underlying 224 = some (.slice 24) := by kernel_rfl
@[simp] theorem elem_227 : elemP P 227 = some (5, 1) := by kernel_rfl
@[simp] theorem und_227 : P.underlying 227 = some (.slice 5) := by kernel_rfl
@[simp] theorem und_234 : P.underlying 234 = some (.int .i64) := by kernel_rfl
@[simp] theorem elem_267 : elemP P 267 = some (53, 5) := by kernel_rfl
@[simp] theorem und_267 : P.underlying 267 = some (.slice 53) := by kernel_rfl
@[simp] theorem und_286 : P.underlying 286 = some (.int .u64) := by kernel_rfl
@[simp] theorem und_301 : P.underlying 301 = some (.int .i64) := by kernel_rfl
@[simp] theorem und_309 : P.underlying 309 = some (.int .u64) := by kernel_rfl
@[simp] theorem und_312 : P.underlying 312 = some (.array 2 3) := by kernel_rfl
@[simp] theorem elem_313 : elemP P 313 = some (312, 2) := by kernel_rfl
@[simp] theorem und_313 : P.underlying 313 = some (.slice 312) := by kernel_rfl
@[simp] theorem und_319 : P.underlying 319 = some (.int .u64) := by kernel_rfl
@[simp] theorem und_332 : P.underlying 332 = some (.array 256 158) := by kernel_rfl
@[simp] theorem lay_3 : lay P 3 = some (false, 1) := by kernel_rfl
@[simp] theorem lay_4 : lay P 4 = some (false, 1) := by kernel_rfl
@[simp] theorem lay_5 : lay P 5 = some (false, 1) := by kernel_rfl
@[simp] theorem lay_9 : lay P 9 = some (false, 1) := by kernel_rfl
@[simp] theorem lay_21 : lay P 21 = some (false, 1) := by kernel_rfl
@[simp] theorem lay_23 : lay P 23 = some (true, 4) := by kernel_rfl
@[simp] theorem lay_24 : lay P 24 = some (false, 1) := by kernel_rfl
@[simp] theorem lay_25 : lay P 25 = some (true, 4) := by kernel_rfl
@[simp] theorem lay_27 : lay P 27 = some (true, 9) := by kernel_rfl
@[simp] theorem lay_30 : lay P 30 = some (true, 3) := by kernel_rfl
@[simp] theorem lay_32 : lay P 32 = some (true, 8) := by kernel_rfl
@[simp] theorem lay_35 : lay P 35 = some (false, 1) := by kernel_rfl
@[simp] theorem lay_38 : lay P 38 = some (false, 1) := by kernel_rfl
@[simp] theorem lay_43 : lay P 43 = some (true, 9) := by kernel_rfl
@[simp] theorem lay_53 : lay P 53 = some (true, 5) := by kernel_rfl
@[simp] theorem lay_54 : lay P 54 = some (true, 20) := by kernel_rfl
@[simp] theorem lay_56 : lay P 56 = some (true, 22) := by kernel_rfl
@[simp] theorem lay_58 : lay P 58 = some (false, 1) := by kernel_rfl
@[simp] theorem lay_74 : lay P 74 = some (false, 1) := by kernel_rfl
@[simp] theorem lay_79 : lay P 79 = some (true, 8) := by kernel_rfl
@[simp] theorem lay_88 : lay P 88 = some (true, 3) := by kernel_rfl
@[simp] theorem lay_90 : lay P 90 = some (false, 1) := by kernel_rfl
@[simp] theorem lay_93 : lay P 93 = some (false, 1) := by kernel_rfl
@[simp] theorem lay_97 : lay P 97 = some (false, 1) := by kernel_rfl
@[simp] theorem lay_98 : lay P 98 = some (false, 1) := by kernel_rfl
@[simp] theorem lay_100 : lay P 100 = some (true, 2) := by kernel_rfl
@[simp] theorem lay_125 : lay P 125 = some (false, 1) := by kernel_rfl
@[simp] theorem lay_128 : lay P 128 = some (false, 1) := by kernel_rfl
@[simp] theorem lay_130 : lay P 130 = some (false, 1) := by kernel_rfl
@[simp] theorem lay_132 : lay P 132 = some (true, 4) := by kernel_rfl
@[simp] theorem lay_139 : lay P 139 = some (true, 4) := by kernel_rfl
@[simp] theorem lay_152 : lay P 152 = some (true, 3) := by kernel_rfl
@[simp] theorem lay_158 : lay P 158 = some (false, 1) := by kernel_rfl
@[simp] theorem lay_165 : lay P 165 = some (false, 1) := by kernel_rfl
@[simp] theorem lay_171 : lay P 171 = some (false, 1) := by kernel_rfl
@[simp] theorem lay_172 : lay P 172 = some (false, 1) := by kernel_rfl
@[simp] theorem lay_176 : lay P 176 = some (true, 3) := by kernel_rfl
@[simp] theorem lay_182 : lay P 182 = some (true, 6) := by kernel_rfl
@[simp] theorem lay_184 : lay P 184 = some (true, 10) := by kernel_rfl
@[simp] theorem lay_200 : lay P 200 = some (true, 24) := by kernel_rfl
@[simp] theorem lay_203 : lay P 203 = some (false, 1) := by kernel_rfl
@[simp] theorem lay_207 : lay P 207 = some (false, 1) := by kernel_rfl
@[simp] theorem lay_209 : lay P 209 = some (true, 3) := by kernel_rfl
@[simp] theorem lay_222 : lay P 222 = some (true, 3) := by kernel_rfl
@[simp] theorem lay_224 : lay P 224 = some (false, 1) := by kernel_rfl
@[simp] theorem lay_227 : lay P 227 = some (false, 1) := by kernel_rfl
@[simp] theorem lay_234 : lay P 234 = some (false, 1) := by kernel_rfl
@[simp] theorem lay_248 : lay P 248 = some (true, 3) := by kernel_rfl
@[simp] theorem lay_249 : lay P 249 = some (false, 1) := by kernel_rfl
@[simp] theorem lay_251 : lay P 251 = some (true, 4) := by kernel_rfl
@[simp] theorem lay_260 : lay P 260 = some (true, 3) := by kernel_rfl
@[simp] theorem lay_312 : lay P 312 = some (true, 2) := by kernel_rfl
@[simp] theorem lay_319 : lay P 319 = some (false, 1) := by kernel_rfl
@[simp] theorem lay_334 : lay P 334 = some (true, 259) := by kernel_rfl
@[simp] theorem off_23_0 : offP P 23 0 = some 0 := by kernel_rfl
@[simp] theorem off_23_1 : offP P 23 1 = some 1 := by kernel_rfl
@[simp] theorem off_23_2 : offP P 23 2 = some 2 := by kernel_rfl
@[simp] theorem off_23_3 : offP P 23 3 = some 3 := by kernel_rfl
@[simp] theorem off_27_0 : offP P 27 0 = some 0 := by kernel_rfl
@[simp] theorem off_27_1 : offP P 27 1 = some 4 := by kernel_rfl
@[simp] theorem off_27_2 : offP P 27 2 = some 8 := by kernel_rfl
@[simp] theorem off_30_0 : offP P 30 0 = some 0 := by kernel_rfl
@[simp] theorem off_30_1 : offP P 30 1 = some 1 := by kernel_rfl
@[simp] theorem off_30_2 : offP P 30 2 = some 2 := by kernel_rfl
@[simp] theorem off_32_0 : offP P 32 0 = some 0 := by kernel_rfl
@[simp] theorem off_32_1 : offP P 32 1 = some 1 := by kernel_rfl
@[simp] theorem off_32_2 : offP P 32 2 = some 2 := by kernel_rfl
@[simp] theorem off_32_3 : offP P 32 3 = some 3 := by kernel_rfl
@[simp] theorem off_32_4 : offP P 32 4 = some 4 := by kernel_rfl
@[simp] theorem off_32_5 : offP P 32 5 = some 5 := by kernel_rfl
@[simp] theorem off_43_2 : offP P 43 2 = some 2 := by kernel_rfl
@[simp] theorem off_43_8 : offP P 43 8 = some 8 := by kernel_rfl
@[simp] theorem off_53_0 : offP P 53 0 = some 0 := by kernel_rfl
@[simp] theorem off_53_1 : offP P 53 1 = some 1 := by kernel_rfl
@[simp] theorem off_53_2 : offP P 53 2 = some 2 := by kernel_rfl
@[simp] theorem off_53_3 : offP P 53 3 = some 3 := by kernel_rfl
@[simp] theorem off_53_4 : offP P 53 4 = some 4 := by kernel_rfl
@[simp] theorem off_56_0 : offP P 56 0 = some 0 := by kernel_rfl
@[simp] theorem off_56_1 : offP P 56 1 = some 1 := by kernel_rfl
@[simp] theorem off_56_2 : offP P 56 2 = some 2 := by kernel_rfl
@[simp] theorem off_79_0 : offP P 79 0 = some 0 := by kernel_rfl
@[simp] theorem off_79_1 : offP P 79 1 = some 1 := by kernel_rfl
@[simp] theorem off_79_2 : offP P 79 2 = some 2 := by kernel_rfl
@[simp] theorem off_79_3 : offP P 79 3 = some 3 := by kernel_rfl
@[simp] theorem off_79_4 : offP P 79 4 = some 4 := by kernel_rfl
@[simp] theorem off_79_5 : offP P 79 5 = some 5 := by kernel_rfl
@[simp] theorem off_100_0 : offP P 100 0 = some 0 := by kernel_rfl
@[simp] theorem off_100_1 : offP P 100 1 = some 1 := by kernel_rfl
@[simp] theorem off_103_0 : offP P 103 0 = some 0 := by kernel_rfl
@[simp] theorem off_103_1 : offP P 103 1 = some 1 := by kernel_rfl
@[simp] theorem off_103_2 : offP P 103 2 = some 2 := by kernel_rfl
@[simp] theorem off_103_3 : offP P 103 3 = some 3 := by kernel_rfl
@[simp] theorem off_103_4 : offP P 103 4 = some 25 := by kernel_rfl
@[simp] theorem off_103_5 : offP P 103 5 = some 33 := by kernel_rfl
@[simp] theorem off_103_6 : offP P 103 6 = some 34 := by kernel_rfl
@[simp] theorem off_127_0 : offP P 127 0 = some 0 := by kernel_rfl
@[simp] theorem off_127_1 : offP P 127 1 = some 4 := by kernel_rfl
@[simp] theorem off_127_2 : offP P 127 2 = some 5 := by kernel_rfl
@[simp] theorem off_127_3 : offP P 127 3 = some 6 := by kernel_rfl
@[simp] theorem off_132_0 : offP P 132 0 = some 0 := by kernel_rfl
@[simp] theorem off_132_1 : offP P 132 1 = some 1 := by kernel_rfl
@[simp] theorem off_132_2 : offP P 132 2 = some 2 := by kernel_rfl
@[simp] theorem off_132_3 : offP P 132 3 = some 3 := by kernel_rfl
@[simp] theorem off_150_2 : offP P 150 2 = some 0 := by kernel_rfl
@[simp] theorem off_152_0 : offP P 152 0 = some 0 := by kernel_rfl
@[simp] theorem off_152_1 : offP P 152 1 = some 1 := by kernel_rfl
@[simp] theorem off_152_2 : offP P 152 2 = some 2 := by kernel_rfl
@[simp] theorem off_155_0 : offP P 155 0 = some 0 := by kernel_rfl
@[simp] theorem off_160_1 : offP P 160 1 = some 0 := by kernel_rfl
@[simp] theorem off_162_0 : offP P 162 0 = some 0 := by kernel_rfl
@[simp] theorem off_162_1 : offP P 162 1 = some 1 := by kernel_rfl
@[simp] theorem off_162_2 : offP P 162 2 = some 2 := by kernel_rfl
@[simp] theorem off_167_0 : offP P 167 0 = some 0 := by kernel_rfl
@[simp] theorem off_167_1 : offP P 167 1 = some 1 := by kernel_rfl
@[simp] theorem off_174_0 : offP P 174 0 = some 0 := by kernel_rfl
@[simp] theorem off_174_1 : offP P 174 1 = some 1 := by kernel_rfl
@[simp] theorem off_174_2 : offP P 174 2 = some 2 := by kernel_rfl
@[simp] theorem off_174_3 : offP P 174 3 = some 7 := by kernel_rfl
@[simp] theorem off_174_4 : offP P 174 4 = some 8 := by kernel_rfl
@[simp] theorem off_174_5 : offP P 174 5 = some 9 := by kernel_rfl
@[simp] theorem off_174_6 : offP P 174 6 = some 10 := by kernel_rfl
@[simp] theorem off_174_7 : offP P 174 7 = some 11 := by kernel_rfl
@[simp] theorem off_176_0 : offP P 176 0 = some 0 := by kernel_rfl
@[simp] theorem off_176_1 : offP P 176 1 = some 1 := by kernel_rfl
@[simp] theorem off_176_2 : offP P 176 2 = some 2 := by kernel_rfl
@[simp] theorem off_182_0 : offP P 182 0 = some 0 := by kernel_rfl
@[simp] theorem off_182_1 : offP P 182 1 = some 1 := by kernel_rfl
@[simp] theorem off_182_2 : offP P 182 2 = some 2 := by kernel_rfl
@[simp] theorem off_182_3 : offP P 182 3 = some 3 := by kernel_rfl
@[simp] theorem off_182_4 : offP P 182 4 = some 4 := by kernel_rfl
@[simp] theorem off_182_5 : offP P 182 5 = some 5 := by kernel_rfl
@[simp] theorem off_184_0 : offP P 184 0 = some 0 := by kernel_rfl
@[simp] theorem off_184_1 : offP P 184 1 = some 1 := by kernel_rfl
@[simp] theorem off_184_2 : offP P 184 2 = some 2 := by kernel_rfl
@[simp] theorem off_184_3 : offP P 184 3 = some 3 := by kernel_rfl
@[simp] theorem off_184_4 : offP P 184 4 = some 9 := by kernel_rfl
@[simp] theorem off_200_0 : offP P 200 0 = some 0 := by kernel_rfl
@[simp] theorem off_200_1 : offP P 200 1 = some 22 := by kernel_rfl
@[simp] theorem off_200_2 : offP P 200 2 = some 23 := by kernel_rfl
@[simp] theorem off_209_0 : offP P 209 0 = some 0 := by kernel_rfl
@[simp] theorem off_209_1 : offP P 209 1 = some 1 := by kernel_rfl
@[simp] theorem off_209_2 : offP P 209 2 = some 2 := by kernel_rfl
@[simp] theorem off_218_0 : offP P 218 0 = some 0 := by kernel_rfl
@[simp] theorem off_218_1 : offP P 218 1 = some 12 := by kernel_rfl
@[simp] theorem off_218_2 : offP P 218 2 = some 13 := by kernel_rfl
@[simp] theorem off_222_0 : offP P 222 0 = some 0 := by kernel_rfl
@[simp] theorem off_222_1 : offP P 222 1 = some 1 := by kernel_rfl
@[simp] theorem off_222_2 : offP P 222 2 = some 2 := by kernel_rfl
@[simp] theorem off_226_0 : offP P 226 0 = some 0 := by kernel_rfl
@[simp] theorem off_226_1 : offP P 226 1 = some 1 := by kernel_rfl
@[simp] theorem off_226_2 : offP P 226 2 = some 193 := by kernel_rfl
@[simp] theorem off_226_3 : offP P 226 3 = some 194 := by kernel_rfl
@[simp] theorem off_248_0 : offP P 248 0 = some 0 := by kernel_rfl
@[simp] theorem off_248_1 : offP P 248 1 = some 1 := by kernel_rfl
@[simp] theorem off_248_2 : offP P 248 2 = some 2 := by kernel_rfl
@[simp] theorem off_251_0 : offP P 251 0 = some 0 := by kernel_rfl
@[simp] theorem off_251_1 : offP P 251 1 = some 1 := by kernel_rfl
@[simp] theorem off_251_2 : offP P 251 2 = some 2 := by kernel_rfl
@[simp] theorem off_251_3 : offP P 251 3 = some 3 := by kernel_rfl
@[simp] theorem off_260_0 : offP P 260 0 = some 0 := by kernel_rfl
@[simp] theorem off_260_1 : offP P 260 1 = some 1 := by kernel_rfl
@[simp] theorem off_260_2 : offP P 260 2 = some 2 := by kernel_rfl
@[simp] theorem off_290_0 : offP P 290 0 = some 0 := by kernel_rfl
@[simp] theorem off_290_1 : offP P 290 1 = some 1 := by kernel_rfl
@[simp] theorem off_327_0 : offP P 327 0 = some 0 := by kernel_rfl
@[simp] theorem off_327_1 : offP P 327 1 = some 1 := by kernel_rfl
@[simp] theorem off_329_1 : offP P 329 1 = some 0 := by kernel_rfl
@[simp] theorem off_331_1 : offP P 331 1 = some 0 := by kernel_rfl
@[simp] theorem off_331_2 : offP P 331 2 = some 1 := by kernel_rfl
@[simp] theorem off_334_0 : offP P 334 0 = some 0 := by kernel_rfl
@[simp] theorem off_334_1 : offP P 334 1 = some 3 := by kernel_rfl
@[simp] theorem idx_24 : idxP P 24 = some (none, 1) := by kernel_rfl
@[simp] theorem idx_28 : idxP P 28 = some (none, 8) := by kernel_rfl
@[simp] theorem idx_54 : idxP P 54 = some (some 4, 5) := by kernel_rfl
@[simp] theorem idx_74 : idxP P 74 = some (none, 3) := by kernel_rfl
@[simp] theorem idx_77 : idxP P 77 = some (none, 8) := by kernel_rfl
@[simp] theorem idx_101 : idxP P 101 = some (some 4, 2) := by kernel_rfl
@[simp] theorem idx_125 : idxP P 125 = some (none, 4) := by kernel_rfl
@[simp] theorem idx_130 : idxP P 130 = some (none, 3) := by kernel_rfl
@[simp] theorem idx_139 : idxP P 139 = some (some 4, 1) := by kernel_rfl
@[simp] theorem idx_141 : idxP P 141 = some (none, 1) := by kernel_rfl
@[simp] theorem idx_153 : idxP P 153 = some (some 4, 3) := by kernel_rfl
@[simp] theorem idx_165 : idxP P 165 = some (none, 3) := by kernel_rfl
@[simp] theorem idx_203 : idxP P 203 = some (none, 10) := by kernel_rfl
@[simp] theorem idx_207 : idxP P 207 = some (none, 3) := by kernel_rfl
@[simp] theorem idx_216 : idxP P 216 = some (some 4, 3) := by kernel_rfl
@[simp] theorem idx_223 : idxP P 223 = some (some 64, 3) := by kernel_rfl
@[simp] theorem idx_224 : idxP P 224 = some (none, 1) := by kernel_rfl
@[simp] theorem idx_227 : idxP P 227 = some (none, 1) := by kernel_rfl
@[simp] theorem idx_267 : idxP P 267 = some (none, 5) := by kernel_rfl
@[simp] theorem idx_312 : idxP P 312 = some (some 2, 1) := by kernel_rfl
@[simp] theorem idx_313 : idxP P 313 = some (none, 2) := by kernel_rfl
@[simp] theorem idx_332 : idxP P 332 = some (some 256, 1) := by kernel_rfl
@[simp] theorem fld_23_3 : fldP P 23 3 = some (false, 3, 1) := by kernel_rfl
@[simp] theorem fld_251_3 : fldP P 251 3 = some (false, 3, 1) := by kernel_rfl
@[simp] theorem zero_3 : zeroP P 3 = some (.int .i64 0) := by kernel_rfl
@[simp] theorem zero_5 : zeroP P 5 = some (.int .u8 0) := by kernel_rfl
@[simp] theorem zero_23 : zeroP P 23 = some (.agg #[(.int .i64 0), (.int .i64 0), (.int .i64 0), (.int .i64 0)]) := by kernel_rfl
@[simp] theorem zero_24 : zeroP P 24 = some (.slice none 0 0) := by kernel_rfl
@[simp] theorem zero_27 : zeroP P 27 = some (.agg #[(.int .i64 0), (.int .i64 0), (.int .i64 0), (.int .i64 0), (.slice none 0 0), (.slice none 0 0), (.slice none 0 0), (.slice none 0 0), (.slice none 0 0)]) := by kernel_rfl
@[simp] theorem zero_30 : zeroP P 30 = some (.agg #[(.int .i64 0), (.int .i64 0), (.string { data := #[] })]) := by kernel_rfl
@[simp] theorem zero_32 : zeroP P 32 = some (.agg #[(.int .u8 0), (.int .i64 0), (.int .i64 0), (.int .i64 0), (.int .i64 0), (.int .i64 0), (.int .i64 0), (.string { data := #[] })]) := by kernel_rfl
@[simp] theorem zero_35 : zeroP P 35 = some (.int .i64 0) := by kernel_rfl
@[simp] theorem zero_43 : zeroP P 43 = some (.agg #[(.int .i64 0), (.int .i64 0), (.int .i64 0), (.int .i64 0), (.int .i64 0), (.int .i64 0), (.bool false), (.int .i64 0), (.int .i64 0)]) := by kernel_rfl
@[simp] theorem zero_53 : zeroP P 53 = some (.agg #[(.bool false), (.int .i64 0), (.int .i64 0), (.int .i64 0), (.slice none 0 0)]) := by kernel_rfl
@[simp] theorem zero_56 : zeroP P 56 = some (.agg #[(.int .i64 0), (.int .i64 0), (.bool false), (.int .i64 0), (.int .i64 0), (.int .i64 0), (.slice none 0 0), (.bool false), (.int .i64 0), (.int .i64 0), (.int .i64 0), (.slice none 0 0), (.bool false), (.int .i64 0), (.int .i64 0), (.int .i64 0), (.slice none 0 0), (.bool false), (.int .i64 0), (.int .i64 0), (.int .i64 0), (.slice none 0 0)]) := by kernel_rfl
@[simp] theorem zero_79 : zeroP P 79 = some (.agg #[(.int .i64 0), (.int .i64 0), (.int .i64 0), (.int .i64 0), (.int .i64 0), (.int .i64 0), (.int .i64 0), (.string { data := #[] })]) := by kernel_rfl
@[simp] theorem zero_88 : zeroP P 88 = some (.agg #[(.int .i64 0), (.int .i64 0), (.string { data := #[] })]) := by kernel_rfl
@[simp] theorem zero_97 : zeroP P 97 = some (.pointer none) := by kernel_rfl
@[simp] theorem zero_128 : zeroP P 128 = some (.pointer none) := by kernel_rfl
@[simp] theorem zero_132 : zeroP P 132 = some (.agg #[(.slice none 0 0), (.int .i64 0), (.bool false), (.int .i64 0)]) := by kernel_rfl
@[simp] theorem zero_139 : zeroP P 139 = some (.agg #[(.pointer none), (.pointer none), (.pointer none), (.pointer none)]) := by kernel_rfl
@[simp] theorem zero_176 : zeroP P 176 = some (.agg #[(.int .i64 0), (.int .i64 0), (.string { data := #[] })]) := by kernel_rfl
@[simp] theorem zero_182 : zeroP P 182 = some (.agg #[(.int .i64 0), (.int .i64 0), (.int .i64 0), (.int .i64 0), (.int .i64 0), (.bool false)]) := by kernel_rfl
@[simp] theorem zero_184 : zeroP P 184 = some (.agg #[(.int .i64 0), (.int .i64 0), (.bool false), (.int .i64 0), (.int .i64 0), (.int .i64 0), (.int .i64 0), (.int .i64 0), (.bool false), (.string { data := #[] })]) := by kernel_rfl
@[simp] theorem zero_200 : zeroP P 200 = some (.agg #[(.int .i64 0), (.int .i64 0), (.bool false), (.int .i64 0), (.int .i64 0), (.int .i64 0), (.slice none 0 0), (.bool false), (.int .i64 0), (.int .i64 0), (.int .i64 0), (.slice none 0 0), (.bool false), (.int .i64 0), (.int .i64 0), (.int .i64 0), (.slice none 0 0), (.bool false), (.int .i64 0), (.int .i64 0), (.int .i64 0), (.slice none 0 0), (.int .i64 0), (.bool false)]) := by kernel_rfl
@[simp] theorem zero_209 : zeroP P 209 = some (.agg #[(.slice none 0 0), (.slice none 0 0), (.int .i64 0)]) := by kernel_rfl
@[simp] theorem zero_222 : zeroP P 222 = some (.agg #[(.int .i64 0), (.int .i64 0), (.bool false)]) := by kernel_rfl
@[simp] theorem zero_248 : zeroP P 248 = some (.agg #[(.int .i64 0), (.int .i64 0), (.int .i64 0)]) := by kernel_rfl
@[simp] theorem zero_251 : zeroP P 251 = some (.agg #[(.int .i64 0), (.map none), (.slice none 0 0), (.slice none 0 0)]) := by kernel_rfl
@[simp] theorem zero_260 : zeroP P 260 = some (.agg #[(.int .i64 0), (.slice none 0 0), (.string { data := #[] })]) := by kernel_rfl
@[simp] theorem zero_312 : zeroP P 312 = some (.agg #[(.int .i64 0), (.int .i64 0)]) := by kernel_rfl
@[simp] theorem zero_319 : zeroP P 319 = some (.int .u64 0) := by kernel_rfl
@[simp] theorem zero_334 : zeroP P 334 = some (.agg #[(.int .u32 0), (.int .i32 0), (.int .u32 0), (.int .u32 0), (.int .u32 0), (.int .u32 0), (.int .u32 0), (.int .u32 0), (.int .u32 0), (.int .u32 0), (.int .u32 0), (.int .u32 0), (.int .u32 0), (.int .u32 0), (.int .u32 0), (.int .u32 0), (.int .u32 0), (.int .u32 0), (.int .u32 0), (.int .u32 0), (.int .u32 0), (.int .u32 0), (.int .u32 0), (.int .u32 0), (.int .u32 0), (.int .u32 0), (.int .u32 0), (.int .u32 0), (.int .u32 0), (.int .u32 0), (.int .u32 0), (.int .u32 0), (.int .u32 0), (.int .u32 0), (.int .u32 0), (.int .u32 0), (.int .u32 0), (.int .u32 0), (.int .u32 0), (.int .u32 0), (.int .u32 0), (.int .u32 0), (.int .u32 0), (.int .u32 0), (.int .u32 0), (.int .u32 0), (.int .u32 0), (.int .u32 0), (.int .u32 0), (.int .u32 0), (.int .u32 0), (.int .u32 0), (.int .u32 0), (.int .u32 0), (.int .u32 0), (.int .u32 0), (.int .u32 0), (.int .u32 0), (.int .u32 0), (.int .u32 0), (.int .u32 0), (.int .u32 0), (.int .u32 0), (.int .u32 0), (.int .u32 0), (.int .u32 0), (.int .u32 0), (.int .u32 0), (.int .u32 0), (.int .u32 0), (.int .u32 0), (.int .u32 0), (.int .u32 0), (.int .u32 0), (.int .u32 0), (.int .u32 0), (.int .u32 0), (.int .u32 0), (.int .u32 0), (.int .u32 0), (.int .u32 0), (.int .u32 0), (.int .u32 0), (.int .u32 0), (.int .u32 0), (.int .u32 0), (.int .u32 0), (.int .u32 0), (.int .u32 0), (.int .u32 0), (.int .u32 0), (.int .u32 0), (.int .u32 0), (.int .u32 0), (.int .u32 0), (.int .u32 0), (.int .u32 0), (.int .u32 0), (.int .u32 0), (.int .u32 0), (.int .u32 0), (.int .u32 0), (.int .u32 0), (.int .u32 0), (.int .u32 0), (.int .u32 0), (.int .u32 0), (.int .u32 0), (.int .u32 0), (.int .u32 0), (.int .u32 0), (.int .u32 0), (.int .u32 0), (.int .u32 0), (.int .u32 0), (.int .u32 0), (.int .u32 0), (.int .u32 0), (.int .u32 0), (.int .u32 0), (.int .u32 0), (.int .u32 0), (.int .u32 0), (.int .u32 0), (.int .u32 0), (.int .u32 0), (.int .u32 0), (.int .u32 0), (.int .u32 0), (.int .u32 0), (.int .u32 0), (.int .u32 0), (.int .u32 0), (.int .u32 0), (.int .u32 0), (.int .u32 0), (.int .u32 0), (.int .u32 0), (.int .u32 0), (.int .u32 0), (.int .u32 0), (.int .u32 0), (.int .u32 0), (.int .u32 0), (.int .u32 0), (.int .u32 0), (.int .u32 0), (.int .u32 0), (.int .u32 0), (.int .u32 0), (.int .u32 0), (.int .u32 0), (.int .u32 0), (.int .u32 0), (.int .u32 0), (.int .u32 0), (.int .u32 0), (.int .u32 0), (.int .u32 0), (.int .u32 0), (.int .u32 0), (.int .u32 0), (.int .u32 0), (.int .u32 0), (.int .u32 0), (.int .u32 0), (.int .u32 0), (.int .u32 0), (.int .u32 0), (.int .u32 0), (.int .u32 0), (.int .u32 0), (.int .u32 0), (.int .u32 0), (.int .u32 0), (.int .u32 0), (.int .u32 0), (.int .u32 0), (.int .u32 0), (.int .u32 0), (.int .u32 0), (.int .u32 0), (.int .u32 0), (.int .u32 0), (.int .u32 0), (.int .u32 0), (.int .u32 0), (.int .u32 0), (.int .u32 0), (.int .u32 0), (.int .u32 0), (.int .u32 0), (.int .u32 0), (.int .u32 0), (.int .u32 0), (.int .u32 0), (.int .u32 0), (.int .u32 0), (.int .u32 0), (.int .u32 0), (.int .u32 0), (.int .u32 0), (.int .u32 0), (.int .u32 0), (.int .u32 0), (.int .u32 0), (.int .u32 0), (.int .u32 0), (.int .u32 0), (.int .u32 0), (.int .u32 0), (.int .u32 0), (.int .u32 0), (.int .u32 0), (.int .u32 0), (.int .u32 0), (.int .u32 0), (.int .u32 0), (.int .u32 0), (.int .u32 0), (.int .u32 0), (.int .u32 0), (.int .u32 0), (.int .u32 0), (.int .u32 0), (.int .u32 0), (.int .u32 0), (.int .u32 0), (.int .u32 0), (.int .u32 0), (.int .u32 0), (.int .u32 0), (.int .u32 0), (.int .u32 0), (.int .u32 0), (.int .u32 0), (.int .u32 0), (.int .u32 0), (.int .u32 0), (.int .u32 0), (.int .u32 0), (.int .u32 0), (.int .u32 0), (.int .u32 0), (.int .u32 0), (.int .u32 0), (.int .u32 0), (.int .u32 0), (.int .u32 0), (.int .u32 0), (.int .u32 0), (.int .u32 0), (.int .u32 0), (.int .u32 0), (.int .u32 0), (.int .u32 0), (.int .u32 0), (.int .u32 0), (.int .u32 0)]) := by kernel_rfl
@[simp] theorem bld_23 : bldP P 23 = some ([(.int .i64 0), (.int .i64 0), (.int .i64 0), (.int .i64 0)], [(0, 1), (1, 1), (2, 1), (3, 1)]) := by kernel_rfl
@[simp] theorem bld_27 : bldP P 27 = some ([(.int .i64 0), (.int .i64 0), (.int .i64 0), (.int .i64 0), (.slice none 0 0), (.slice none 0 0), (.slice none 0 0), (.slice none 0 0), (.slice none 0 0)], [(0, 4), (4, 4), (8, 1)]) := by kernel_rfl
@[simp] theorem bld_30 : bldP P 30 = some ([(.int .i64 0), (.int .i64 0), (.string { data := #[] })], [(0, 1), (1, 1), (2, 1)]) := by kernel_rfl
@[simp] theorem bld_43 : bldP P 43 = some ([(.int .i64 0), (.int .i64 0), (.int .i64 0), (.int .i64 0), (.int .i64 0), (.int .i64 0), (.bool false), (.int .i64 0), (.int .i64 0)], [(0, 1), (1, 1), (2, 1), (3, 1), (4, 1), (5, 1), (6, 1), (7, 1), (8, 1)]) := by kernel_rfl
@[simp] theorem bld_53 : bldP P 53 = some ([(.bool false), (.int .i64 0), (.int .i64 0), (.int .i64 0), (.slice none 0 0)], [(0, 1), (1, 1), (2, 1), (3, 1), (4, 1)]) := by kernel_rfl
@[simp] theorem bld_56 : bldP P 56 = some ([(.int .i64 0), (.int .i64 0), (.bool false), (.int .i64 0), (.int .i64 0), (.int .i64 0), (.slice none 0 0), (.bool false), (.int .i64 0), (.int .i64 0), (.int .i64 0), (.slice none 0 0), (.bool false), (.int .i64 0), (.int .i64 0), (.int .i64 0), (.slice none 0 0), (.bool false), (.int .i64 0), (.int .i64 0), (.int .i64 0), (.slice none 0 0)], [(0, 1), (1, 1), (2, 20)]) := by kernel_rfl
@[simp] theorem bld_79 : bldP P 79 = some ([(.int .i64 0), (.int .i64 0), (.int .i64 0), (.int .i64 0), (.int .i64 0), (.int .i64 0), (.int .i64 0), (.string { data := #[] })], [(0, 1), (1, 1), (2, 1), (3, 1), (4, 1), (5, 3)]) := by kernel_rfl
@[simp] theorem bld_88 : bldP P 88 = some ([(.int .i64 0), (.int .i64 0), (.string { data := #[] })], [(0, 1), (1, 1), (2, 1)]) := by kernel_rfl
@[simp] theorem bld_100 : bldP P 100 = some ([(.pointer none), (.pointer none)], [(0, 1), (1, 1)]) := by kernel_rfl
@[simp] theorem bld_103 : bldP P 103 = some ([(.pointer none), (.pointer none), (.pointer none), (.int .i64 0), (.int .i64 0), (.bool false), (.int .i64 0), (.int .i64 0), (.int .i64 0), (.slice none 0 0), (.bool false), (.int .i64 0), (.int .i64 0), (.int .i64 0), (.slice none 0 0), (.bool false), (.int .i64 0), (.int .i64 0), (.int .i64 0), (.slice none 0 0), (.bool false), (.int .i64 0), (.int .i64 0), (.int .i64 0), (.slice none 0 0), (.pointer none), (.pointer none), (.pointer none), (.pointer none), (.pointer none), (.pointer none), (.pointer none), (.pointer none), (.int .i64 0), (.bool false)], [(0, 1), (1, 1), (2, 1), (3, 22), (25, 8), (33, 1), (34, 1)]) := by kernel_rfl
@[simp] theorem bld_127 : bldP P 127 = some ([(.int .i64 0), (.int .i64 0), (.int .i64 0), (.int .i64 0), (.pointer none), (.pointer none), (.slice none 0 0)], [(0, 4), (4, 1), (5, 1), (6, 1)]) := by kernel_rfl
@[simp] theorem bld_155 : bldP P 155 = some ([(.slice none 0 0), (.int .i64 0), (.int .i64 0), (.slice none 0 0), (.int .i64 0), (.int .i64 0), (.slice none 0 0), (.int .i64 0), (.int .i64 0), (.slice none 0 0), (.int .i64 0), (.int .i64 0)], [(0, 12)]) := by kernel_rfl
@[simp] theorem bld_162 : bldP P 162 = some ([(.int .i64 0), (.int .u32 0), (.int .i64 0)], [(0, 1), (1, 1), (2, 1)]) := by kernel_rfl
@[simp] theorem bld_167 : bldP P 167 = some ([(.slice none 0 0), (.slice none 0 0)], [(0, 1), (1, 1)]) := by kernel_rfl
@[simp] theorem bld_174 : bldP P 174 = some ([(.pointer none), (.int .i64 0), (.bool false), (.int .i64 0), (.int .i64 0), (.int .i64 0), (.slice none 0 0), (.pointer none), (.pointer none), (.int .i64 0), (.int .i64 0), (.bool false)], [(0, 1), (1, 1), (2, 5), (7, 1), (8, 1), (9, 1), (10, 1), (11, 1)]) := by kernel_rfl
@[simp] theorem bld_176 : bldP P 176 = some ([(.int .i64 0), (.int .i64 0), (.string { data := #[] })], [(0, 1), (1, 1), (2, 1)]) := by kernel_rfl
@[simp] theorem bld_182 : bldP P 182 = some ([(.int .i64 0), (.int .i64 0), (.int .i64 0), (.int .i64 0), (.int .i64 0), (.bool false)], [(0, 1), (1, 1), (2, 1), (3, 1), (4, 1), (5, 1)]) := by kernel_rfl
@[simp] theorem bld_184 : bldP P 184 = some ([(.int .i64 0), (.int .i64 0), (.bool false), (.int .i64 0), (.int .i64 0), (.int .i64 0), (.int .i64 0), (.int .i64 0), (.bool false), (.string { data := #[] })], [(0, 1), (1, 1), (2, 1), (3, 6), (9, 1)]) := by kernel_rfl
@[simp] theorem bld_200 : bldP P 200 = some ([(.int .i64 0), (.int .i64 0), (.bool false), (.int .i64 0), (.int .i64 0), (.int .i64 0), (.slice none 0 0), (.bool false), (.int .i64 0), (.int .i64 0), (.int .i64 0), (.slice none 0 0), (.bool false), (.int .i64 0), (.int .i64 0), (.int .i64 0), (.slice none 0 0), (.bool false), (.int .i64 0), (.int .i64 0), (.int .i64 0), (.slice none 0 0), (.int .i64 0), (.bool false)], [(0, 22), (22, 1), (23, 1)]) := by kernel_rfl
@[simp] theorem bld_209 : bldP P 209 = some ([(.slice none 0 0), (.slice none 0 0), (.int .i64 0)], [(0, 1), (1, 1), (2, 1)]) := by kernel_rfl
@[simp] theorem bld_218 : bldP P 218 = some ([(.int .i64 0), (.int .i64 0), (.string { data := #[] }), (.int .i64 0), (.int .i64 0), (.string { data := #[] }), (.int .i64 0), (.int .i64 0), (.string { data := #[] }), (.int .i64 0), (.int .i64 0), (.string { data := #[] }), (.int .i64 0), (.int .i64 0)], [(0, 12), (12, 1), (13, 1)]) := by kernel_rfl
@[simp] theorem bld_222 : bldP P 222 = some ([(.int .i64 0), (.int .i64 0), (.bool false)], [(0, 1), (1, 1), (2, 1)]) := by kernel_rfl
@[simp] theorem bld_226 : bldP P 226 = some ([(.int .i64 0), (.int .i64 0), (.int .i64 0), (.bool false), (.int .i64 0), (.int .i64 0), (.bool false), (.int .i64 0), (.int .i64 0), (.bool false), (.int .i64 0), (.int .i64 0), (.bool false), (.int .i64 0), (.int .i64 0), (.bool false), (.int .i64 0), (.int .i64 0), (.bool false), (.int .i64 0), (.int .i64 0), (.bool false), (.int .i64 0), (.int .i64 0), (.bool false), (.int .i64 0), (.int .i64 0), (.bool false), (.int .i64 0), (.int .i64 0), (.bool false), (.int .i64 0), (.int .i64 0), (.bool false), (.int .i64 0), (.int .i64 0), (.bool false), (.int .i64 0), (.int .i64 0), (.bool false), (.int .i64 0), (.int .i64 0), (.bool false), (.int .i64 0), (.int .i64 0), (.bool false), (.int .i64 0), (.int .i64 0), (.bool false), (.int .i64 0), (.int .i64 0), (.bool false), (.int .i64 0), (.int .i64 0), (.bool false), (.int .i64 0), (.int .i64 0), (.bool false), (.int .i64 0), (.int .i64 0), (.bool false), (.int .i64 0), (.int .i64 0), (.bool false), (.int .i64 0), (.int .i64 0), (.bool false), (.int .i64 0), (.int .i64 0), (.bool false), (.int .i64 0), (.int .i64 0), (.bool false), (.int .i64 0), (.int .i64 0), (.bool false), (.int .i64 0), (.int .i64 0), (.bool false), (.int .i64 0), (.int .i64 0), (.bool false), (.int .i64 0), (.int .i64 0), (.bool false), (.int .i64 0), (.int .i64 0), (.bool false), (.int .i64 0), (.int .i64 0), (.bool false), (.int .i64 0), (.int .i64 0), (.bool false), (.int .i64 0), (.int .i64 0), (.bool false), (.int .i64 0), (.int .i64 0), (.bool false), (.int .i64 0), (.int .i64 0), (.bool false), (.int .i64 0), (.int .i64 0), (.bool false), (.int .i64 0), (.int .i64 0), (.bool false), (.int .i64 0), (.int .i64 0), (.bool false), (.int .i64 0), (.int .i64 0), (.bool false), (.int .i64 0), (.int .i64 0), (.bool false), (.int .i64 0), (.int .i64 0), (.bool false), (.int .i64 0), (.int .i64 0), (.bool false), (.int .i64 0), (.int .i64 0), (.bool false), (.int .i64 0), (.int .i64 0), (.bool false), (.int .i64 0), (.int .i64 0), (.bool false), (.int .i64 0), (.int .i64 0), (.bool false), (.int .i64 0), (.int .i64 0), (.bool false), (.int .i64 0), (.int .i64 0), (.bool false), (.int .i64 0), (.int .i64 0), (.bool false), (.int .i64 0), (.int .i64 0), (.bool false), (.int .i64 0), (.int .i64 0), (.bool false), (.int .i64 0), (.int .i64 0), (.bool false), (.int .i64 0), (.int .i64 0), (.bool false), (.int .i64 0), (.int .i64 0), (.bool false), (.int .i64 0), (.int .i64 0), (.bool false), (.int .i64 0), (.int .i64 0), (.bool false), (.int .i64 0), (.int .i64 0), (.bool false), (.int .i64 0), (.int .i64 0), (.bool false), (.int .i64 0), (.int .i64 0), (.bool false), (.int .i64 0), (.int .i64 0), (.bool false), (.int .i64 0), (.int .i64 0), (.bool false), (.int .i64 0), (.int .i64 0), (.bool false), (.int .i64 0), (.int .i64 0), (.bool false), (.int .i64 0), (.int .i64 0), (.bool false), (.int .i64 0), (.int .i64 0), (.bool false), (.slice none 0 0), (.slice none 0 0)], [(0, 1), (1, 192), (193, 1), (194, 1)]) := by kernel_rfl
@[simp] theorem bld_248 : bldP P 248 = some ([(.int .i64 0), (.int .i64 0), (.int .i64 0)], [(0, 1), (1, 1), (2, 1)]) := by kernel_rfl
@[simp] theorem bld_251 : bldP P 251 = some ([(.int .i64 0), (.map none), (.slice none 0 0), (.slice none 0 0)], [(0, 1), (1, 1), (2, 1), (3, 1)]) := by kernel_rfl
@[simp] theorem bld_260 : bldP P 260 = some ([(.int .i64 0), (.slice none 0 0), (.string { data := #[] })], [(0, 1), (1, 1), (2, 1)]) := by kernel_rfl
@[simp] theorem bld_290 : bldP P 290 = some ([(.slice none 0 0), (.int .i64 0)], [(0, 1), (1, 1)]) := by kernel_rfl
@[simp] theorem bld_312 : bldP P 312 = none := by kernel_rfl
@[simp] theorem arr_312 : arrP P 312 = some ([(.int .i64 0), (.int .i64 0)], 1) := by kernel_rfl
@[simp] theorem kind_2 : kindP P 2 = 2 := by kernel_rfl
@[simp] theorem kind_3 : kindP P 3 = 2 := by kernel_rfl
@[simp] theorem kind_4 : kindP P 4 = 1 := by kernel_rfl
@[simp] theorem kind_5 : kindP P 5 = 2 := by kernel_rfl
@[simp] theorem kind_9 : kindP P 9 = 3 := by kernel_rfl
@[simp] theorem kind_21 : kindP P 21 = 2 := by kernel_rfl
@[simp] theorem kind_24 : kindP P 24 = 5 := by kernel_rfl
@[simp] theorem kind_28 : kindP P 28 = 5 := by kernel_rfl
@[simp] theorem kind_35 : kindP P 35 = 2 := by kernel_rfl
@[simp] theorem kind_38 : kindP P 38 = 4 := by kernel_rfl
@[simp] theorem kind_43 : kindP P 43 = 0 := by kernel_rfl
@[simp] theorem kind_58 : kindP P 58 = 4 := by kernel_rfl
@[simp] theorem kind_61 : kindP P 61 = 7 := by kernel_rfl
@[simp] theorem kind_74 : kindP P 74 = 5 := by kernel_rfl
@[simp] theorem kind_77 : kindP P 77 = 5 := by kernel_rfl
@[simp] theorem kind_88 : kindP P 88 = 0 := by kernel_rfl
@[simp] theorem kind_90 : kindP P 90 = 4 := by kernel_rfl
@[simp] theorem kind_93 : kindP P 93 = 4 := by kernel_rfl
@[simp] theorem kind_97 : kindP P 97 = 4 := by kernel_rfl
@[simp] theorem kind_98 : kindP P 98 = 4 := by kernel_rfl
@[simp] theorem kind_125 : kindP P 125 = 5 := by kernel_rfl
@[simp] theorem kind_128 : kindP P 128 = 4 := by kernel_rfl
@[simp] theorem kind_130 : kindP P 130 = 5 := by kernel_rfl
@[simp] theorem kind_141 : kindP P 141 = 5 := by kernel_rfl
@[simp] theorem kind_158 : kindP P 158 = 2 := by kernel_rfl
@[simp] theorem kind_165 : kindP P 165 = 5 := by kernel_rfl
@[simp] theorem kind_168 : kindP P 168 = 4 := by kernel_rfl
@[simp] theorem kind_171 : kindP P 171 = 4 := by kernel_rfl
@[simp] theorem kind_172 : kindP P 172 = 4 := by kernel_rfl
@[simp] theorem kind_203 : kindP P 203 = 5 := by kernel_rfl
@[simp] theorem kind_207 : kindP P 207 = 5 := by kernel_rfl
@[simp] theorem kind_224 : kindP P 224 = 5 := by kernel_rfl
@[simp] theorem kind_227 : kindP P 227 = 5 := by kernel_rfl
@[simp] theorem kind_234 : kindP P 234 = 2 := by kernel_rfl
@[simp] theorem kind_263 : kindP P 263 = 4 := by kernel_rfl
@[simp] theorem kind_267 : kindP P 267 = 5 := by kernel_rfl
@[simp] theorem kind_286 : kindP P 286 = 2 := by kernel_rfl
@[simp] theorem kind_301 : kindP P 301 = 2 := by kernel_rfl
@[simp] theorem kind_309 : kindP P 309 = 2 := by kernel_rfl
@[simp] theorem kind_313 : kindP P 313 = 5 := by kernel_rfl
@[simp] theorem kind_319 : kindP P 319 = 2 := by kernel_rfl
@[simp] theorem fieldV_23_0 (b o : Nat) : fieldV P 23 (ptr b o) 0 = some (ptr b (o + 0)) := by unfold fieldV; rw [off_23_0]
@[simp] theorem fieldV_23_1 (b o : Nat) : fieldV P 23 (ptr b o) 1 = some (ptr b (o + 1)) := by unfold fieldV; rw [off_23_1]
@[simp] theorem fieldV_23_2 (b o : Nat) : fieldV P 23 (ptr b o) 2 = some (ptr b (o + 2)) := by unfold fieldV; rw [off_23_2]
@[simp] theorem fieldV_23_3 (b o : Nat) : fieldV P 23 (ptr b o) 3 = some (ptr b (o + 3)) := by unfold fieldV; rw [off_23_3]
@[simp] theorem fieldV_27_0 (b o : Nat) : fieldV P 27 (ptr b o) 0 = some (ptr b (o + 0)) := by unfold fieldV; rw [off_27_0]
@[simp] theorem fieldV_27_1 (b o : Nat) : fieldV P 27 (ptr b o) 1 = some (ptr b (o + 4)) := by unfold fieldV; rw [off_27_1]
@[simp] theorem fieldV_27_2 (b o : Nat) : fieldV P 27 (ptr b o) 2 = some (ptr b (o + 8)) := by unfold fieldV; rw [off_27_2]
@[simp] theorem fieldV_30_0 (b o : Nat) : fieldV P 30 (ptr b o) 0 = some (ptr b (o + 0)) := by unfold fieldV; rw [off_30_0]
@[simp] theorem fieldV_30_1 (b o : Nat) : fieldV P 30 (ptr b o) 1 = some (ptr b (o + 1)) := by unfold fieldV; rw [off_30_1]
@[simp] theorem fieldV_30_2 (b o : Nat) : fieldV P 30 (ptr b o) 2 = some (ptr b (o + 2)) := by unfold fieldV; rw [off_30_2]
@[simp] theorem fieldV_32_0 (b o : Nat) : fieldV P 32 (ptr b o) 0 = some (ptr b (o + 0)) := by unfold fieldV; rw [off_32_0]
@[simp] theorem fieldV_32_1 (b o : Nat) : fieldV P 32 (ptr b o) 1 = some (ptr b (o + 1)) := by unfold fieldV; rw [off_32_1]
@[simp] theorem fieldV_32_2 (b o : Nat) : fieldV P 32 (ptr b o) 2 = some (ptr b (o + 2)) := by unfold fieldV; rw [off_32_2]
@[simp] theorem fieldV_32_3 (b o : Nat) : fieldV P 32 (ptr b o) 3 = some (ptr b (o + 3)) := by unfold fieldV; rw [off_32_3]
@[simp] theorem fieldV_32_4 (b o : Nat) : fieldV P 32 (ptr b o) 4 = some (ptr b (o + 4)) := by unfold fieldV; rw [off_32_4]
@[simp] theorem fieldV_32_5 (b o : Nat) : fieldV P 32 (ptr b o) 5 = some (ptr b (o + 5)) := by unfold fieldV; rw [off_32_5]
@[simp] theorem fieldV_43_2 (b o : Nat) : fieldV P 43 (ptr b o) 2 = some (ptr b (o + 2)) := by unfold fieldV; rw [off_43_2]
@[simp] theorem fieldV_43_8 (b o : Nat) : fieldV P 43 (ptr b o) 8 = some (ptr b (o + 8)) := by unfold fieldV; rw [off_43_8]
@[simp] theorem fieldV_53_0 (b o : Nat) : fieldV P 53 (ptr b o) 0 = some (ptr b (o + 0)) := by unfold fieldV; rw [off_53_0]
@[simp] theorem fieldV_53_1 (b o : Nat) : fieldV P 53 (ptr b o) 1 = some (ptr b (o + 1)) := by unfold fieldV; rw [off_53_1]
@[simp] theorem fieldV_53_2 (b o : Nat) : fieldV P 53 (ptr b o) 2 = some (ptr b (o + 2)) := by unfold fieldV; rw [off_53_2]
@[simp] theorem fieldV_53_3 (b o : Nat) : fieldV P 53 (ptr b o) 3 = some (ptr b (o + 3)) := by unfold fieldV; rw [off_53_3]
@[simp] theorem fieldV_53_4 (b o : Nat) : fieldV P 53 (ptr b o) 4 = some (ptr b (o + 4)) := by unfold fieldV; rw [off_53_4]
@[simp] theorem fieldV_56_0 (b o : Nat) : fieldV P 56 (ptr b o) 0 = some (ptr b (o + 0)) := by unfold fieldV; rw [off_56_0]
@[simp] theorem fieldV_56_1 (b o : Nat) : fieldV P 56 (ptr b o) 1 = some (ptr b (o + 1)) := by unfold fieldV; rw [off_56_1]
@[simp] theorem fieldV_56_2 (b o : Nat) : fieldV P 56 (ptr b o) 2 = some (ptr b (o + 2)) := by unfold fieldV; rw [off_56_2]
@[simp] theorem fieldV_79_0 (b o : Nat) : fieldV P 79 (ptr b o) 0 = some (ptr b (o + 0)) := by unfold fieldV; rw [off_79_0]
@[simp] theorem fieldV_79_1 (b o : Nat) : fieldV P 79 (ptr b o) 1 = some (ptr b (o + 1)) := by unfold fieldV; rw [off_79_1]
@[simp] theorem fieldV_79_2 (b o : Nat) : fieldV P 79 (ptr b o) 2 = some (ptr b (o + 2)) := by unfold fieldV; rw [off_79_2]
@[simp] theorem fieldV_79_3 (b o : Nat) : fieldV P 79 (ptr b o) 3 = some (ptr b (o + 3)) := by unfold fieldV; rw [off_79_3]
@[simp] theorem fieldV_79_4 (b o : Nat) : fieldV P 79 (ptr b o) 4 = some (ptr b (o + 4)) := by unfold fieldV; rw [off_79_4]
@[simp] theorem fieldV_79_5 (b o : Nat) : fieldV P 79 (ptr b o) 5 = some (ptr b (o + 5)) := by unfold fieldV; rw [off_79_5]
@[simp] theorem fieldV_100_0 (b o : Nat) : fieldV P 100 (ptr b o) 0 = some (ptr b (o + 0)) := by unfold fieldV; rw [off_100_0]
@[simp] theorem fieldV_100_1 (b o : Nat) : fieldV P 100 (ptr b o) 1 = some (ptr b (o + 1)) := by unfold fieldV; rw [off_100_1]
@[simp] theorem fieldV_103_0 (b o : Nat) : fieldV P 103 (ptr b o) 0 = some (ptr b (o + 0)) := by unfold fieldV; rw [off_103_0]
@[simp] theorem fieldV_103_1 (b o : Nat) : fieldV P 103 (ptr b o) 1 = some (ptr b (o + 1)) := by unfold fieldV; rw [off_103_1]
@[simp] theorem fieldV_103_2 (b o : Nat) : fieldV P 103 (ptr b o) 2 = some (ptr b (o + 2)) := by unfold fieldV; rw [off_103_2]
@[simp] theorem fieldV_103_3 (b o : Nat) : fieldV P 103 (ptr b o) 3 = some (ptr b (o + 3)) := by unfold fieldV; rw [off_103_3]
@[simp] theorem fieldV_103_4 (b o : Nat) : fieldV P 103 (ptr b o) 4 = some (ptr b (o + 25)) := by unfold fieldV; rw [off_103_4]
@[simp] theorem fieldV_103_5 (b o : Nat) : fieldV P 103 (ptr b o) 5 = some (ptr b (o + 33)) := by unfold fieldV; rw [off_103_5]
@[simp] theorem fieldV_103_6 (b o : Nat) : fieldV P 103 (ptr b o) 6 = some (ptr b (o + 34)) := by unfold fieldV; rw [off_103_6]
@[simp] theorem fieldV_127_0 (b o : Nat) : fieldV P 127 (ptr b o) 0 = some (ptr b (o + 0)) := by unfold fieldV; rw [off_127_0]
@[simp] theorem fieldV_127_1 (b o : Nat) : fieldV P 127 (ptr b o) 1 = some (ptr b (o + 4)) := by unfold fieldV; rw [off_127_1]
@[simp] theorem fieldV_127_2 (b o : Nat) : fieldV P 127 (ptr b o) 2 = some (ptr b (o + 5)) := by unfold fieldV; rw [off_127_2]
@[simp] theorem fieldV_127_3 (b o : Nat) : fieldV P 127 (ptr b o) 3 = some (ptr b (o + 6)) := by unfold fieldV; rw [off_127_3]
@[simp] theorem fieldV_132_0 (b o : Nat) : fieldV P 132 (ptr b o) 0 = some (ptr b (o + 0)) := by unfold fieldV; rw [off_132_0]
@[simp] theorem fieldV_132_1 (b o : Nat) : fieldV P 132 (ptr b o) 1 = some (ptr b (o + 1)) := by unfold fieldV; rw [off_132_1]
@[simp] theorem fieldV_132_2 (b o : Nat) : fieldV P 132 (ptr b o) 2 = some (ptr b (o + 2)) := by unfold fieldV; rw [off_132_2]
@[simp] theorem fieldV_132_3 (b o : Nat) : fieldV P 132 (ptr b o) 3 = some (ptr b (o + 3)) := by unfold fieldV; rw [off_132_3]
@[simp] theorem fieldV_150_2 (b o : Nat) : fieldV P 150 (ptr b o) 2 = some (ptr b (o + 0)) := by unfold fieldV; rw [off_150_2]
@[simp] theorem fieldV_152_0 (b o : Nat) : fieldV P 152 (ptr b o) 0 = some (ptr b (o + 0)) := by unfold fieldV; rw [off_152_0]
@[simp] theorem fieldV_152_1 (b o : Nat) : fieldV P 152 (ptr b o) 1 = some (ptr b (o + 1)) := by unfold fieldV; rw [off_152_1]
@[simp] theorem fieldV_152_2 (b o : Nat) : fieldV P 152 (ptr b o) 2 = some (ptr b (o + 2)) := by unfold fieldV; rw [off_152_2]
@[simp] theorem fieldV_155_0 (b o : Nat) : fieldV P 155 (ptr b o) 0 = some (ptr b (o + 0)) := by unfold fieldV; rw [off_155_0]
@[simp] theorem fieldV_160_1 (b o : Nat) : fieldV P 160 (ptr b o) 1 = some (ptr b (o + 0)) := by unfold fieldV; rw [off_160_1]
@[simp] theorem fieldV_162_0 (b o : Nat) : fieldV P 162 (ptr b o) 0 = some (ptr b (o + 0)) := by unfold fieldV; rw [off_162_0]
@[simp] theorem fieldV_162_1 (b o : Nat) : fieldV P 162 (ptr b o) 1 = some (ptr b (o + 1)) := by unfold fieldV; rw [off_162_1]
@[simp] theorem fieldV_162_2 (b o : Nat) : fieldV P 162 (ptr b o) 2 = some (ptr b (o + 2)) := by unfold fieldV; rw [off_162_2]
@[simp] theorem fieldV_167_0 (b o : Nat) : fieldV P 167 (ptr b o) 0 = some (ptr b (o + 0)) := by unfold fieldV; rw [off_167_0]
@[simp] theorem fieldV_167_1 (b o : Nat) : fieldV P 167 (ptr b o) 1 = some (ptr b (o + 1)) := by unfold fieldV; rw [off_167_1]
@[simp] theorem fieldV_174_0 (b o : Nat) : fieldV P 174 (ptr b o) 0 = some (ptr b (o + 0)) := by unfold fieldV; rw [off_174_0]
@[simp] theorem fieldV_174_1 (b o : Nat) : fieldV P 174 (ptr b o) 1 = some (ptr b (o + 1)) := by unfold fieldV; rw [off_174_1]
@[simp] theorem fieldV_174_2 (b o : Nat) : fieldV P 174 (ptr b o) 2 = some (ptr b (o + 2)) := by unfold fieldV; rw [off_174_2]
@[simp] theorem fieldV_174_3 (b o : Nat) : fieldV P 174 (ptr b o) 3 = some (ptr b (o + 7)) := by unfold fieldV; rw [off_174_3]
@[simp] theorem fieldV_174_4 (b o : Nat) : fieldV P 174 (ptr b o) 4 = some (ptr b (o + 8)) := by unfold fieldV; rw [off_174_4]
@[simp] theorem fieldV_174_5 (b o : Nat) : fieldV P 174 (ptr b o) 5 = some (ptr b (o + 9)) := by unfold fieldV; rw [off_174_5]
@[simp] theorem fieldV_174_6 (b o : Nat) : fieldV P 174 (ptr b o) 6 = some (ptr b (o + 10)) := by unfold fieldV; rw [off_174_6]
@[simp] theorem fieldV_174_7 (b o : Nat) : fieldV P 174 (ptr b o) 7 = some (ptr b (o + 11)) := by unfold fieldV; rw [off_174_7]
@[simp] theorem fieldV_176_0 (b o : Nat) : fieldV P 176 (ptr b o) 0 = some (ptr b (o + 0)) := by unfold fieldV; rw [off_176_0]
@[simp] theorem fieldV_176_1 (b o : Nat) : fieldV P 176 (ptr b o) 1 = some (ptr b (o + 1)) := by unfold fieldV; rw [off_176_1]
@[simp] theorem fieldV_176_2 (b o : Nat) : fieldV P 176 (ptr b o) 2 = some (ptr b (o + 2)) := by unfold fieldV; rw [off_176_2]
@[simp] theorem fieldV_182_0 (b o : Nat) : fieldV P 182 (ptr b o) 0 = some (ptr b (o + 0)) := by unfold fieldV; rw [off_182_0]
@[simp] theorem fieldV_182_1 (b o : Nat) : fieldV P 182 (ptr b o) 1 = some (ptr b (o + 1)) := by unfold fieldV; rw [off_182_1]
@[simp] theorem fieldV_182_2 (b o : Nat) : fieldV P 182 (ptr b o) 2 = some (ptr b (o + 2)) := by unfold fieldV; rw [off_182_2]
@[simp] theorem fieldV_182_3 (b o : Nat) : fieldV P 182 (ptr b o) 3 = some (ptr b (o + 3)) := by unfold fieldV; rw [off_182_3]
@[simp] theorem fieldV_182_4 (b o : Nat) : fieldV P 182 (ptr b o) 4 = some (ptr b (o + 4)) := by unfold fieldV; rw [off_182_4]
@[simp] theorem fieldV_182_5 (b o : Nat) : fieldV P 182 (ptr b o) 5 = some (ptr b (o + 5)) := by unfold fieldV; rw [off_182_5]
@[simp] theorem fieldV_184_0 (b o : Nat) : fieldV P 184 (ptr b o) 0 = some (ptr b (o + 0)) := by unfold fieldV; rw [off_184_0]
@[simp] theorem fieldV_184_1 (b o : Nat) : fieldV P 184 (ptr b o) 1 = some (ptr b (o + 1)) := by unfold fieldV; rw [off_184_1]
@[simp] theorem fieldV_184_2 (b o : Nat) : fieldV P 184 (ptr b o) 2 = some (ptr b (o + 2)) := by unfold fieldV; rw [off_184_2]
@[simp] theorem fieldV_184_3 (b o : Nat) : fieldV P 184 (ptr b o) 3 = some (ptr b (o + 3)) := by unfold fieldV; rw [off_184_3]
@[simp] theorem fieldV_184_4 (b o : Nat) : fieldV P 184 (ptr b o) 4 = some (ptr b (o + 9)) := by unfold fieldV; rw [off_184_4]
@[simp] theorem fieldV_200_0 (b o : Nat) : fieldV P 200 (ptr b o) 0 = some (ptr b (o + 0)) := by unfold fieldV; rw [off_200_0]
@[simp] theorem fieldV_200_1 (b o : Nat) : fieldV P 200 (ptr b o) 1 = some (ptr b (o + 22)) := by unfold fieldV; rw [off_200_1]
@[simp] theorem fieldV_200_2 (b o : Nat) : fieldV P 200 (ptr b o) 2 = some (ptr b (o + 23)) := by unfold fieldV; rw [off_200_2]
@[simp] theorem fieldV_209_0 (b o : Nat) : fieldV P 209 (ptr b o) 0 = some (ptr b (o + 0)) := by unfold fieldV; rw [off_209_0]
@[simp] theorem fieldV_209_1 (b o : Nat) : fieldV P 209 (ptr b o) 1 = some (ptr b (o + 1)) := by unfold fieldV; rw [off_209_1]
@[simp] theorem fieldV_209_2 (b o : Nat) : fieldV P 209 (ptr b o) 2 = some (ptr b (o + 2)) := by unfold fieldV; rw [off_209_2]
@[simp] theorem fieldV_218_0 (b o : Nat) : fieldV P 218 (ptr b o) 0 = some (ptr b (o + 0)) := by unfold fieldV; rw [off_218_0]
@[simp] theorem fieldV_218_1 (b o : Nat) : fieldV P 218 (ptr b o) 1 = some (ptr b (o + 12)) := by unfold fieldV; rw [off_218_1]
@[simp] theorem fieldV_218_2 (b o : Nat) : fieldV P 218 (ptr b o) 2 = some (ptr b (o + 13)) := by unfold fieldV; rw [off_218_2]
@[simp] theorem fieldV_222_0 (b o : Nat) : fieldV P 222 (ptr b o) 0 = some (ptr b (o + 0)) := by unfold fieldV; rw [off_222_0]
@[simp] theorem fieldV_222_1 (b o : Nat) : fieldV P 222 (ptr b o) 1 = some (ptr b (o + 1)) := by unfold fieldV; rw [off_222_1]
@[simp] theorem fieldV_222_2 (b o : Nat) : fieldV P 222 (ptr b o) 2 = some (ptr b (o + 2)) := by unfold fieldV; rw [off_222_2]
@[simp] theorem fieldV_226_0 (b o : Nat) : fieldV P 226 (ptr b o) 0 = some (ptr b (o + 0)) := by unfold fieldV; rw [off_226_0]
@[simp] theorem fieldV_226_1 (b o : Nat) : fieldV P 226 (ptr b o) 1 = some (ptr b (o + 1)) := by unfold fieldV; rw [off_226_1]
@[simp] theorem fieldV_226_2 (b o : Nat) : fieldV P 226 (ptr b o) 2 = some (ptr b (o + 193)) := by unfold fieldV; rw [off_226_2]
@[simp] theorem fieldV_226_3 (b o : Nat) : fieldV P 226 (ptr b o) 3 = some (ptr b (o + 194)) := by unfold fieldV; rw [off_226_3]
@[simp] theorem fieldV_248_0 (b o : Nat) : fieldV P 248 (ptr b o) 0 = some (ptr b (o + 0)) := by unfold fieldV; rw [off_248_0]
@[simp] theorem fieldV_248_1 (b o : Nat) : fieldV P 248 (ptr b o) 1 = some (ptr b (o + 1)) := by unfold fieldV; rw [off_248_1]
@[simp] theorem fieldV_248_2 (b o : Nat) : fieldV P 248 (ptr b o) 2 = some (ptr b (o + 2)) := by unfold fieldV; rw [off_248_2]
@[simp] theorem fieldV_251_0 (b o : Nat) : fieldV P 251 (ptr b o) 0 = some (ptr b (o + 0)) := by unfold fieldV; rw [off_251_0]
@[simp] theorem fieldV_251_1 (b o : Nat) : fieldV P 251 (ptr b o) 1 = some (ptr b (o + 1)) := by unfold fieldV; rw [off_251_1]
@[simp] theorem fieldV_251_2 (b o : Nat) : fieldV P 251 (ptr b o) 2 = some (ptr b (o + 2)) := by unfold fieldV; rw [off_251_2]
@[simp] theorem fieldV_251_3 (b o : Nat) : fieldV P 251 (ptr b o) 3 = some (ptr b (o + 3)) := by unfold fieldV; rw [off_251_3]
@[simp] theorem fieldV_260_0 (b o : Nat) : fieldV P 260 (ptr b o) 0 = some (ptr b (o + 0)) := by unfold fieldV; rw [off_260_0]
@[simp] theorem fieldV_260_1 (b o : Nat) : fieldV P 260 (ptr b o) 1 = some (ptr b (o + 1)) := by unfold fieldV; rw [off_260_1]
@[simp] theorem fieldV_260_2 (b o : Nat) : fieldV P 260 (ptr b o) 2 = some (ptr b (o + 2)) := by unfold fieldV; rw [off_260_2]
@[simp] theorem fieldV_290_0 (b o : Nat) : fieldV P 290 (ptr b o) 0 = some (ptr b (o + 0)) := by unfold fieldV; rw [off_290_0]
@[simp] theorem fieldV_290_1 (b o : Nat) : fieldV P 290 (ptr b o) 1 = some (ptr b (o + 1)) := by unfold fieldV; rw [off_290_1]
@[simp] theorem fieldV_327_0 (b o : Nat) : fieldV P 327 (ptr b o) 0 = some (ptr b (o + 0)) := by unfold fieldV; rw [off_327_0]
@[simp] theorem fieldV_327_1 (b o : Nat) : fieldV P 327 (ptr b o) 1 = some (ptr b (o + 1)) := by unfold fieldV; rw [off_327_1]
@[simp] theorem fieldV_329_1 (b o : Nat) : fieldV P 329 (ptr b o) 1 = some (ptr b (o + 0)) := by unfold fieldV; rw [off_329_1]
@[simp] theorem fieldV_331_1 (b o : Nat) : fieldV P 331 (ptr b o) 1 = some (ptr b (o + 0)) := by unfold fieldV; rw [off_331_1]
@[simp] theorem fieldV_331_2 (b o : Nat) : fieldV P 331 (ptr b o) 2 = some (ptr b (o + 1)) := by unfold fieldV; rw [off_331_2]
@[simp] theorem fieldV_334_0 (b o : Nat) : fieldV P 334 (ptr b o) 0 = some (ptr b (o + 0)) := by unfold fieldV; rw [off_334_0]
@[simp] theorem fieldV_334_1 (b o : Nat) : fieldV P 334 (ptr b o) 1 = some (ptr b (o + 3)) := by unfold fieldV; rw [off_334_1]
@[simp] theorem indexV_24 (b o len cap : Nat) (k : IntKind) (n : Int) : indexV P 24 (.slice (some ⟨b, o, none⟩) len cap) (.int k n) = if 0 ≤ n ∧ n < len then some (ptr b (o + n.toNat * 1)) else none := by unfold indexV; rw [idx_24]
@[simp] theorem indexV_28 (b o len cap : Nat) (k : IntKind) (n : Int) : indexV P 28 (.slice (some ⟨b, o, none⟩) len cap) (.int k n) = if 0 ≤ n ∧ n < len then some (ptr b (o + n.toNat * 8)) else none := by unfold indexV; rw [idx_28]
@[simp] theorem indexV_54 (b o : Nat) (k : IntKind) (n : Int) : indexV P 54 (ptr b o) (.int k n) = if 0 ≤ n ∧ n < 4 then some (ptr b (o + n.toNat * 5)) else none := by unfold indexV; rw [idx_54]; rfl
@[simp] theorem indexV_74 (b o len cap : Nat) (k : IntKind) (n : Int) : indexV P 74 (.slice (some ⟨b, o, none⟩) len cap) (.int k n) = if 0 ≤ n ∧ n < len then some (ptr b (o + n.toNat * 3)) else none := by unfold indexV; rw [idx_74]
@[simp] theorem indexV_77 (b o len cap : Nat) (k : IntKind) (n : Int) : indexV P 77 (.slice (some ⟨b, o, none⟩) len cap) (.int k n) = if 0 ≤ n ∧ n < len then some (ptr b (o + n.toNat * 8)) else none := by unfold indexV; rw [idx_77]
@[simp] theorem indexV_101 (b o : Nat) (k : IntKind) (n : Int) : indexV P 101 (ptr b o) (.int k n) = if 0 ≤ n ∧ n < 4 then some (ptr b (o + n.toNat * 2)) else none := by unfold indexV; rw [idx_101]; rfl
@[simp] theorem indexV_125 (b o len cap : Nat) (k : IntKind) (n : Int) : indexV P 125 (.slice (some ⟨b, o, none⟩) len cap) (.int k n) = if 0 ≤ n ∧ n < len then some (ptr b (o + n.toNat * 4)) else none := by unfold indexV; rw [idx_125]
@[simp] theorem indexV_130 (b o len cap : Nat) (k : IntKind) (n : Int) : indexV P 130 (.slice (some ⟨b, o, none⟩) len cap) (.int k n) = if 0 ≤ n ∧ n < len then some (ptr b (o + n.toNat * 3)) else none := by unfold indexV; rw [idx_130]
@[simp] theorem indexV_139 (b o : Nat) (k : IntKind) (n : Int) : indexV P 139 (ptr b o) (.int k n) = if 0 ≤ n ∧ n < 4 then some (ptr b (o + n.toNat * 1)) else none := by unfold indexV; rw [idx_139]; rfl
@[simp] theorem indexV_141 (b o len cap : Nat) (k : IntKind) (n : Int) : indexV P 141 (.slice (some ⟨b, o, none⟩) len cap) (.int k n) = if 0 ≤ n ∧ n < len then some (ptr b (o + n.toNat * 1)) else none := by unfold indexV; rw [idx_141]
@[simp] theorem indexV_153 (b o : Nat) (k : IntKind) (n : Int) : indexV P 153 (ptr b o) (.int k n) = if 0 ≤ n ∧ n < 4 then some (ptr b (o + n.toNat * 3)) else none := by unfold indexV; rw [idx_153]; rfl
@[simp] theorem indexV_165 (b o len cap : Nat) (k : IntKind) (n : Int) : indexV P 165 (.slice (some ⟨b, o, none⟩) len cap) (.int k n) = if 0 ≤ n ∧ n < len then some (ptr b (o + n.toNat * 3)) else none := by unfold indexV; rw [idx_165]
@[simp] theorem indexV_203 (b o len cap : Nat) (k : IntKind) (n : Int) : indexV P 203 (.slice (some ⟨b, o, none⟩) len cap) (.int k n) = if 0 ≤ n ∧ n < len then some (ptr b (o + n.toNat * 10)) else none := by unfold indexV; rw [idx_203]
@[simp] theorem indexV_207 (b o len cap : Nat) (k : IntKind) (n : Int) : indexV P 207 (.slice (some ⟨b, o, none⟩) len cap) (.int k n) = if 0 ≤ n ∧ n < len then some (ptr b (o + n.toNat * 3)) else none := by unfold indexV; rw [idx_207]
@[simp] theorem indexV_216 (b o : Nat) (k : IntKind) (n : Int) : indexV P 216 (ptr b o) (.int k n) = if 0 ≤ n ∧ n < 4 then some (ptr b (o + n.toNat * 3)) else none := by unfold indexV; rw [idx_216]; rfl
@[simp] theorem indexV_223 (b o : Nat) (k : IntKind) (n : Int) : indexV P 223 (ptr b o) (.int k n) = if 0 ≤ n ∧ n < 64 then some (ptr b (o + n.toNat * 3)) else none := by unfold indexV; rw [idx_223]; rfl
@[simp] theorem indexV_224 (b o len cap : Nat) (k : IntKind) (n : Int) : indexV P 224 (.slice (some ⟨b, o, none⟩) len cap) (.int k n) = if 0 ≤ n ∧ n < len then some (ptr b (o + n.toNat * 1)) else none := by unfold indexV; rw [idx_224]
@[simp] theorem indexV_227 (b o len cap : Nat) (k : IntKind) (n : Int) : indexV P 227 (.slice (some ⟨b, o, none⟩) len cap) (.int k n) = if 0 ≤ n ∧ n < len then some (ptr b (o + n.toNat * 1)) else none := by unfold indexV; rw [idx_227]
@[simp] theorem indexV_267 (b o len cap : Nat) (k : IntKind) (n : Int) : indexV P 267 (.slice (some ⟨b, o, none⟩) len cap) (.int k n) = if 0 ≤ n ∧ n < len then some (ptr b (o + n.toNat * 5)) else none := by unfold indexV; rw [idx_267]
@[simp] theorem indexV_312 (b o : Nat) (k : IntKind) (n : Int) : indexV P 312 (ptr b o) (.int k n) = if 0 ≤ n ∧ n < 2 then some (ptr b (o + n.toNat * 1)) else none := by unfold indexV; rw [idx_312]; rfl
@[simp] theorem indexV_313 (b o len cap : Nat) (k : IntKind) (n : Int) : indexV P 313 (.slice (some ⟨b, o, none⟩) len cap) (.int k n) = if 0 ≤ n ∧ n < len then some (ptr b (o + n.toNat * 2)) else none := by unfold indexV; rw [idx_313]
@[simp] theorem indexV_332 (b o : Nat) (k : IntKind) (n : Int) : indexV P 332 (ptr b o) (.int k n) = if 0 ≤ n ∧ n < 256 then some (ptr b (o + n.toNat * 1)) else none := by unfold indexV; rw [idx_332]; rfl
end Go.Al
