/- The builtin copy into a block that is known whole. -/
import Derived.Test.YtcdehndodgefnaaDoorWd
import Derived.Laws.CopyOwn
set_option linter.unusedVariables false
namespace Go.Proofs.YtcdehndodgefnaaDoor
open Go.RowKit Ab Go.Proofs

/-- copy(dst, src): dst lies in block g (all cells known), src's cells are cs. -/
theorem wpList_copy_blk {P : Program} {w : World} {ops : Array Oper} {rest : List Oper} {o : Oper} {a : Act} {Q : Exit → Act → World → Prop} (hgd : o.guard = none) (d s : Operand) (dT sT : TypeId)
    (ho : o.op = .call { callee := .builtin .copy, args := #[d, s], argTypes := #[dT, sT] }) (elem : TypeId) (hu : P.underlying dT = some (.slice elem)) (hsz : (P.info? elem).map (·.size) = some 1)
    (g off : Nat) (ad : Addr) (dLen dCap sLen sCap : Nat) (hd : a.eval d = .slice (some ⟨g, off, none⟩) dLen dCap) (hs : a.eval s = .slice (some ad) sLen sCap)
    (cur : List Value) (t : TypeId) (hg : Blk w g t cur) (cs : List Value) (hn : cs.length = Nat.min sLen dLen)
    (hsrc : ∀ j v, cs[j]? = some v → w.cell? (ad.add j) = some v)
    (hfit : off + cs.length ≤ cur.length) (h1 : ∀ v ∈ cs, v.oneCell' = true)
    (h : ∀ w', Blk w' g t (putAt cur off cs) → Upd (· = g) w w' → wpList P ops Q rest (a.put o.dst (goInt cs.length)) w') :
    wpList P ops Q (o :: rest) a w := by
  by_cases h0 : cs.length = 0
  · obtain rfl : cs = [] := List.eq_nil_of_length_eq_zero h0
    refine wpList_copy_nothing hgd d s dT sT ho elem hu hsz _ _ dLen dCap sLen sCap hd hs (by simpa using hn.symm) ?_
    exact h w (by rw [putAt_nil]; exact hg) (Upd.refl _ _)
  · have hg' : w.heap[g]? = some (.cells cur.toArray t (0, 0)) := hg
    refine wpList_copy_own hgd d s dT sT ho elem hu hsz g off dLen dCap ad sLen sCap hd hs cur.toArray t hg' cs hn hsrc (by simpa using hfit) h1 (h _ ?_ ?_)
    · have e : (cur.toArray.toList.take off ++ (cs ++ cur.toArray.toList.drop (off + cs.length))) = putAt cur off cs := by simp [putAt]
      rw [e]
      show (w.heap.modify g _)[g]? = _
      rw [Array.getElem?_modify, if_pos rfl, hg']
      simp
    · refine ⟨rfl, rfl, rfl, by simp [World.setRow], fun k hk hs => ?_⟩
      show (w.heap.modify g _)[k]? = _
      rw [Array.getElem?_modify, if_neg (fun e => hs e.symm)]
end Go.Proofs.YtcdehndodgefnaaDoor
