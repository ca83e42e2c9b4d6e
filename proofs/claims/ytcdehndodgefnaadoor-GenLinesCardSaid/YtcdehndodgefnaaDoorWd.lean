/- Words on worlds: slices that can be read, blocks that are known whole, what a call may turn. -/
import Derived.Test.YtcdehndodgefnaaDoorPl
import Derived.WalkKit
import Derived.IntWalk
import Derived.BigQuiet
import Derived.Deep.QuietTactic
import Derived.Lib.Hide
import Derived.Laws.NewBlocks
import Derived.Laws.BytesArg
import Derived.Laws.Concat
import Derived.OwnWalk
import Derived.Laws.OwnMore
set_option linter.unusedVariables false
namespace Go.Proofs.YtcdehndodgefnaaDoor
open Go.RowKit Ab

theorem ret_int {k : IntKind} {a b : Int} (h : a = b) : Ending.returned (.int k a) = .returned (.int k b) := by rw [h]
theorem ret_bool {a b : Bool} (h : a = b) : Ending.returned (.bool a) = .returned (.bool b) := by rw [h]

theorem add_plain (b o j : Nat) : (⟨b, o, none⟩ : Addr).add j = ⟨b, o + j, none⟩ := by unfold Addr.add; split <;> simp_all
theorem add_add' (a : Addr) (i j : Nat) : (a.add i).add j = a.add (i + j) := by
  obtain ⟨b, o, s⟩ := a
  unfold Addr.add
  repeat' split
  all_goals simp_all
  all_goals omega
/-- A slice of whole numbers that can be read. -/
def Rd (w : World) (k : IntKind) (a : Option Addr) (n : Nat) (xs : List Int) : Prop :=
  xs.length = n ∧ n ≤ 9223372036854775807 ∧ (0 < n → ∃ ad, a = some ad ∧ ∀ j, j < n → w.cell? (ad.add j) = some (.int k (xs.getD j 0)))

/-- A block of cells, known whole; none of them is shut. -/
def Blk (w : World) (b : Nat) (E : TypeId) (cs : List Value) : Prop := w.heap[b]? = some (.cells cs.toArray E (0, 0))

theorem Blk.cell {w : World} {b E : Nat} {cs : List Value} (h : Blk w b E cs) (o : Nat) : w.cell? ⟨b, o, none⟩ = cs[o]? := by
  simp only [World.cell?]
  rw [h]
  simp
theorem Blk.frozen {w : World} {b E : Nat} {cs : List Value} (h : Blk w b E cs) (o : Nat) : w.frozen? ⟨b, o, none⟩ = false := by
  simp only [World.frozen?]
  rw [h]
  simp
theorem Blk.lt {w : World} {b E : Nat} {cs : List Value} (h : Blk w b E cs) : b < w.heap.size := (Array.getElem?_eq_some_iff.1 h).1
theorem Blk.setCell {w : World} {b E : Nat} {cs : List Value} (h : Blk w b E cs) (o : Nat) (v : Value) : Blk (w.setCell ⟨b, o, none⟩ v) b E (cs.set o v) := by
  show (w.heap.modify b _)[b]? = _
  rw [Array.getElem?_modify, if_pos rfl, h]
  simp
theorem Blk.setCell_ne {w : World} {b E : Nat} {cs : List Value} (h : Blk w b E cs) {a : Addr} (hne : b ≠ a.block) (v : Value) : Blk (w.setCell a v) b E cs := by
  unfold Blk
  rw [Below.heap_setCell w a v b hne]; exact h
theorem Blk.alloc {w : World} {b E : Nat} {cs : List Value} (h : Blk w b E cs) (o : Obj) : Blk (w.alloc o) b E cs := by
  unfold Blk
  rw [Below.heap_alloc w o b h.lt]; exact h
theorem Blk.drew {w : World} {b E : Nat} {cs : List Value} (h : Blk w b E cs) : Blk w.drew b E cs := h
theorem Blk.new (w : World) (E : Nat) (cs : List Value) : Blk (w.alloc (.cells cs.toArray E (0, 0))) w.heap.size E cs := heap_alloc_new w _

/-- But for the blocks S, what was there is as it was. -/
structure Upd (S : Nat → Prop) (w w' : World) : Prop where
  os : w'.os = w.os
  tape : w'.tape = w.tape
  output : w'.output = w.output
  size : w.heap.size ≤ w'.heap.size
  block : ∀ k, k < w.heap.size → ¬ S k → w'.heap[k]? = w.heap[k]?

theorem Upd.refl (S : Nat → Prop) (w : World) : Upd S w w := ⟨rfl, rfl, rfl, Nat.le_refl _, fun _ _ _ => rfl⟩
theorem Upd.trans {S : Nat → Prop} {a b c : World} (h : Upd S a b) (k : Upd S b c) : Upd S a c :=
  ⟨k.os.trans h.os, k.tape.trans h.tape, k.output.trans h.output, Nat.le_trans h.size k.size, fun i hi hs => (k.block i (Nat.lt_of_lt_of_le hi h.size) hs).trans (h.block i hi hs)⟩
theorem Upd.mono {S T : Nat → Prop} {a b : World} (h : Upd S a b) (hs : ∀ k, k < a.heap.size → S k → T k) : Upd T a b :=
  ⟨h.os, h.tape, h.output, h.size, fun i hi ht => h.block i hi fun q => ht (hs i hi q)⟩
theorem Upd.setCell {S : Nat → Prop} {a w : World} (h : Upd S a w) {p : Addr} (hp : S p.block ∨ a.heap.size ≤ p.block) (u : Value) : Upd S a (w.setCell p u) :=
  ⟨h.os, h.tape, h.output, by simp [World.setCell]; exact h.size, fun k hk hs => by
    rw [Below.heap_setCell w p u k (fun e => by subst e; rcases hp with hp | hp; exact hs hp; omega)]; exact h.block k hk hs⟩
theorem Upd.alloc {S : Nat → Prop} {a w : World} (h : Upd S a w) (o : Obj) : Upd S a (w.alloc o) :=
  ⟨h.os, h.tape, h.output, by simp; exact Nat.le_succ_of_le h.size, fun k hk hs => by
    rw [Below.heap_alloc w o k (Nat.lt_of_lt_of_le hk h.size)]; exact h.block k hk hs⟩
theorem Upd.drew {S : Nat → Prop} {a w : World} (h : Upd S a w) : Upd S a w.drew := ⟨h.os, h.tape, h.output, h.size, h.block⟩
theorem Upd.drewN {S : Nat → Prop} {a w : World} (h : Upd S a w) (n : Nat) : Upd S a (w.drewN n) := ⟨h.os, h.tape, h.output, h.size, h.block⟩
theorem Upd.below {a w : World} (h : Upd (fun _ => False) a w) : Below a.heap.size a w := ⟨h.os, h.tape, h.output, h.size, fun k hk => h.block k hk (fun q => q)⟩
theorem Upd.of_below {S : Nat → Prop} {a w : World} (h : Below a.heap.size a w) : Upd S a w := ⟨h.os, h.tape, h.output, h.size, fun k hk _ => h.block k hk⟩
theorem Upd.cell {S : Nat → Prop} {w w' : World} (h : Upd S w w') {p : Addr} {v : Value} (hp : ¬ S p.block) (hc : w.cell? p = some v) : w'.cell? p = some v :=
  (World.cell?_of_block (w := w) (h.block p.block (World.block_lt_of_cell? w p hc) hp)).trans hc
theorem Upd.blk {S : Nat → Prop} {w w' : World} (h : Upd S w w') {b E : Nat} {cs : List Value} (hp : ¬ S b) (hc : Blk w b E cs) : Blk w' b E cs := (h.block b hc.lt hp).trans hc
theorem Upd.rd {S : Nat → Prop} {w w' : World} (h : Upd S w w') {k : IntKind} {a : Option Addr} {n : Nat} {xs : List Int} (hs : ∀ ad, a = some ad → ¬ S ad.block) (hr : Rd w k a n xs) : Rd w' k a n xs := by
  refine ⟨hr.1, hr.2.1, fun hn => ?_⟩
  obtain ⟨ad, e, hc⟩ := hr.2.2 hn
  refine ⟨ad, e, fun j hj => h.cell ?_ (hc j hj)⟩
  have : (ad.add j).block = ad.block := by unfold Addr.add; split <;> rfl
  rw [this]; exact hs ad e

/-- Values that are written over some cells. -/
def putAt (cs : List Value) (o : Nat) (xs : List Value) : List Value := cs.take o ++ xs ++ cs.drop (o + xs.length)
theorem putAt_nil (cs : List Value) (o : Nat) : putAt cs o [] = cs := by simp [putAt]
theorem putAt_length {cs : List Value} {o : Nat} {xs : List Value} (h : o + xs.length ≤ cs.length) : (putAt cs o xs).length = cs.length := by
  simp only [putAt, List.length_append, List.length_take, List.length_drop]; omega
theorem putAt_snoc {cs : List Value} {o : Nat} {xs : List Value} (v : Value) (h : o + xs.length < cs.length) : (putAt cs o xs).set (o + xs.length) v = putAt cs o (xs ++ [v]) := by
  have e : cs.drop (o + xs.length) = cs[o + xs.length] :: cs.drop (o + xs.length + 1) := List.drop_eq_getElem_cons h
  have l1 : (cs.take o ++ xs).length = o + xs.length := by rw [List.length_append, List.length_take]; omega
  simp only [putAt]
  rw [e, List.set_append, if_neg (by omega), l1, Nat.sub_self, List.set_cons_zero, List.length_append, List.length_singleton, ← Nat.add_assoc]
  simp
/-- A slice that is new since the block base, and whose numbers these are. -/
def Own (w : World) (base E : Nat) (k : IntKind) (v : Value) (xs : List Int) : Prop := w.ownsRow base E 1 v xs.length (xs.map (Value.int k))
theorem Own.nil (w : World) (base E : Nat) (k : IntKind) : Own w base E k (.slice none 0 0) [] := World.ownsRow_nil w base E 1
theorem Own.rd {w : World} {base E : Nat} {k : IntKind} {v : Value} {xs : List Int} (h : Own w base E k v xs) : ∃ a c, v = .slice a xs.length c ∧ Rd w k a xs.length xs ∧ (∀ ad, a = some ad → base ≤ ad.block) := by
  rcases h.2 with ⟨rfl, hn⟩ | ⟨g, cap, cur, rfl, hb, hh, hn, hm, hs, ht⟩
  · exact ⟨none, 0, by rw [hn], ⟨rfl, by omega, fun h => by omega⟩, fun ad e => by cases e⟩
  · refine ⟨some ⟨g, 0, none⟩, cap, rfl, ⟨rfl, by unfold maxLen at hm; omega, fun _ => ⟨⟨g, 0, none⟩, rfl, fun j hj => ?_⟩⟩, fun ad e => by cases e; exact hb⟩
    have e1 : (⟨g, 0, none⟩ : Addr).add j = ⟨g, j, none⟩ := by unfold Addr.add; split <;> simp_all
    have e2 : cur.toList[j]? = some (.int k (xs.getD j 0)) := by
      have : (cur.toList.take (xs.length * 1))[j]? = (xs.map (Value.int k))[j]? := by rw [ht]
      rw [List.getElem?_take, if_pos (by omega), List.getElem?_map, List.getElem?_eq_getElem hj] at this
      rw [this, getD_at 0 hj]; rfl
    rw [e1]
    simp only [World.cell?]
    rw [hh]
    simpa using e2
theorem Own.rdc {w : World} {base E : Nat} {k : IntKind} {v : Value} {xs : List Int} (h : Own w base E k v xs) : ∃ a c, v = .slice a xs.length c ∧ Rd w k a xs.length xs ∧ (∀ ad, a = some ad → base ≤ ad.block) ∧ xs.length ≤ c := by
  obtain ⟨a, c, hv, hr, hb⟩ := h.rd
  refine ⟨a, c, hv, hr, hb, ?_⟩
  rcases h.2 with ⟨rfl, hn⟩ | ⟨g, cap, cur, rfl, _, _, hn, _⟩
  · injection hv with h1 h2 h3; omega
  · injection hv with h1 h2 h3; omega
theorem Own.upd {w w' : World} {base E : Nat} {k : IntKind} {v : Value} {xs : List Int} (h : Own w base E k v xs) {S : Nat → Prop} (hu : Upd S w w') (hs : ∀ b, v.ownBlock = some b → ¬ S b) : Own w' base E k v xs := by
  refine ⟨h.1, ?_⟩
  rcases h.2 with hn | ⟨g, cap, cur, rfl, hb, hgg, rest⟩
  · exact .inl hn
  · refine .inr ⟨g, cap, cur, rfl, hb, ?_, rest⟩
    rw [hu.block g (Array.getElem?_eq_some_iff.1 hgg).1 (hs g rfl)]
    exact hgg
theorem Own.snoc {w' : World} {base E : Nat} {k : IntKind} {v' : Value} {xs : List Int} {x : Int} (h : w'.ownsRow base E 1 v' (xs.length + 1) (xs.map (Value.int k) ++ [.int k x])) : Own w' base E k v' (xs ++ [x]) := by
  unfold Own
  rw [List.length_append, List.length_singleton, List.map_append]; exact h
theorem Own.base {w : World} {base E : Nat} {k : IntKind} {v : Value} {xs : List Int} (h : Own w base E k v xs) : ∀ b, v.ownBlock = some b → base ≤ b := fun b hb => (World.ownsRow.lt h b hb).1
theorem cell_one (w : World) (v : Value) (E : Nat) : ∀ (j : Nat) (u : Value), [v][j]? = some u → (w.alloc (Obj.cells #[v] E)).cell? ((⟨w.heap.size, 0, none⟩ : Addr).add j) = some u := by
  intro j u hj
  have e1 : (⟨w.heap.size, 0, none⟩ : Addr).add j = ⟨w.heap.size, j, none⟩ := by unfold Addr.add; split <;> simp_all
  rw [e1, (Blk.new w E [v]).cell j, hj]
theorem Blk.made {w : World} {base E g n : Nat} {z : Value} (h : w.ownsRow base E 1 (.slice (some ⟨g, 0, none⟩) n n) n (madeCells #[z] (n * 1)).toList) : Blk w g E (List.replicate n z) := by
  rcases h.2 with ⟨hv, _⟩ | ⟨g', cap, cur, hv, _, hh, _, _, hs, ht⟩
  · cases hv
  · cases hv
    rw [toList_madeCells_one, Nat.mul_one, List.take_of_length_le (by simp; omega)] at ht
    unfold Blk
    rw [hh, ← ht]
theorem Blk.own {w : World} {base E g n cap : Nat} {k : IntKind} {cs : List Value} {xs : List Int} (h : Blk w g E cs) (hb : base ≤ g) (hl : cs.length = cap) (hn : n ≤ cap) (hm : cap ≤ 9223372036854775807) (hx : xs.length = n) (ht : cs.take n = xs.map (Value.int k)) :
    Own w base E k (.slice (some ⟨g, 0, none⟩) n cap) xs := by
  subst hx
  refine ⟨by simp, .inr ⟨g, cap, cs.toArray, rfl, hb, h, hn, by unfold maxLen; omega, by simp [hl], ?_⟩⟩
  rw [Nat.mul_one]; exact ht
theorem Upd.toBelow {S : Nat → Prop} {B : Nat} {w w1 w2 : World} (h : Below B w w1) (hu : Upd S w1 w2) (hs : ∀ k, S k → B ≤ k) (hB : B ≤ w1.heap.size) : Below B w w2 :=
  h.trans ⟨hu.os, hu.tape, hu.output, hu.size, fun k hk => hu.block k (by omega) fun q => by have := hs k q; omega⟩
theorem Own.lower {w : World} {base base' E : Nat} {k : IntKind} {v : Value} {xs : List Int} (h : Own w base E k v xs) (hb : base' ≤ base) : Own w base' E k v xs := by
  refine ⟨h.1, ?_⟩
  rcases h.2 with hn | ⟨g, cap, cur, hv, hg, rest⟩
  · exact .inl hn
  · exact .inr ⟨g, cap, cur, hv, by omega, rest⟩

theorem strOfNums_append (xs ys : List Int) : strOfNums xs ++ strOfNums ys = strOfNums (xs ++ ys) := by
  apply ByteArray.ext; rw [ByteArray.data_append]; simp [strOfNums]
/-- A new slice of one byte, as a text. -/
theorem run_byte_string {P : Program} (w : World) (src e dst : TypeId) (hs : P.underlying src = some (.slice e)) (he : P.underlying e = some (.int .u8)) (hd : P.underlying dst = some .string) (z : Int) :
    (convert src dst (.slice (some ⟨w.heap.size, 0, none⟩) 1 1)).run P (w.alloc (.cells #[.int .u8 z] e)) = .ok (.string (strOfNums [z])) (w.alloc (.cells #[.int .u8 z] e)) :=
  run_convert_bytes_arg _ src e hs he w.heap.size 0 1 1 [z] rfl (fun i hi => by
    obtain rfl : i = 0 := by omega
    exact (Blk.new w e [.int .u8 z]).cell 0) dst hd
/-- A region that draws its order, each of whose operations has one value in all worlds of a class, and leaves a world of it: one walk of the text serves. -/
theorem wp_region_cls {P : Program} {id : Nat} {Q : Exit → Act → World → Prop} {a : Act} {w : World} {l : List Oper} (C : World → Prop) (hm : P.follows .mixedOrders = true) (hB : Region.lexB .any l.toArray = true) (hC : C w.drew)
    (h : wpQuiet P l.toArray C (fun a' => ∀ w', C w' → Q .normal a' w') l a) : (Code.region id l.toArray true).wp P Q a w :=
  wp_region_quiet hm hB hC (by simpa using h)
theorem below_drewN {B : Nat} {a w : World} (h : Below B a w) (n : Nat) : Below B a (w.drewN n) := ⟨h.os, h.tape, h.output, h.size, h.block⟩
end Go.Proofs.YtcdehndodgefnaaDoor
