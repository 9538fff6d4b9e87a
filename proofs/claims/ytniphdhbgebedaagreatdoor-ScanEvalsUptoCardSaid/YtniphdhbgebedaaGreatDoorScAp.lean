/-
  Any slice of texts appended to a row of one's own.
-/
import Derived.Test.YtniphdhbgebedaaGreatDoorScFw
import Derived.OwnWalk
namespace Go.Proofs.YtniphdhbgebedaaGreatDoor
open Go.RowKit

set_option linter.unusedSimpArgs false

theorem append_any {P : Program} (w : World) {ops : Array Oper} {rest : List Oper} {o : Oper} {a : Act} {Q : Exit → Act → World → Prop} (hgd : o.guard = none) (s x : Operand) (t : TypeId)
    (ho : o.op = .call { callee := .builtin .append, args := #[s, x], argTypes := #[t, t] })
    (base : Nat) (e : TypeId) (i : TypeInfo) (z : Value) (bytes : Nat) (ht : P.underlying t = some (.slice e)) (hi : P.info? e = some i) (hz : i.zero = some z)
    (hsize : i.size = 1) (hby : i.bytes = bytes) (hzs : z.cells.size = 1)
    (v : Value) (n : Nat) (xs : List Value) (hs : a.eval s = v) (hown : w.ownsRow base e 1 v n xs)
    (A : Option Addr) (m c : Nat) (ys : List Value) (hx : a.eval x = .slice A m c) (hS : Sl w A c m 1 ys) (h1 : ∀ u ∈ ys, u.oneCell' = true)
    (h63 : n + m ≤ maxLen) (hbytes : (n + m) * bytes ≤ 140737488355328) (hbase : base ≤ w.heap.size)
    (h : ∀ v' w', w'.ownsRow base e 1 v' (n + m) (xs ++ ys) → w.grownBy w' v.ownBlock → wpList P ops Q rest (a.put o.dst v') w') : wpList P ops Q (o :: rest) a w := by
  have hl := hS.len
  cases A with
  | none =>
    obtain ⟨rfl, rfl⟩ := hS.nil rfl
    have hy : ys = [] := List.length_eq_zero_iff.1 (by rw [hl])
    subst hy
    refine wpList_append_own_none hgd s x t ho base e i 1 ht hi v n xs hs hown hx (h v w ?_ (World.grownBy.refl _ _))
    rw [Nat.add_zero, List.append_nil]
    exact hown
  | some ad =>
    refine wpList_append_own w hgd s x t ho base e i z 1 bytes ht hi hz hsize hby hzs (by omega) v n xs hs hown ad m c ys hx hl (fun j u hu => ?_) h1 h63 hbytes hbase (fun v' w' h2 h3 _ => h v' w' h2 h3)
    have hj := (List.getElem?_eq_some_iff.1 hu).1
    obtain ⟨b, o', he, hc⟩ := hS.cells (by omega)
    cases he
    rw [Addr.add_lit, hc j (by omega), hu]
theorem sl_one {w : World} {s : ByteArray} : Sl (w.alloc (.cells #[.string s] 9)) (some ⟨w.heap.size, 0, none⟩) 1 1 1 (txV [s]) := by
  have := heap_alloc_new w (.cells #[.string s] 9)
  exact ⟨rfl, by simp, Nat.le_refl _, by unfold maxLen; omega, fun _ => ⟨_, 0, rfl, fun j hj => by rw [World.cell?, this]; simp [txV]⟩⟩
theorem own_empty {w : World} {base : Nat} (hb : base ≤ w.heap.size) : (w.alloc (.cells #[] 9)).ownsRow base 9 1 (.slice (some ⟨w.heap.size, 0, none⟩) 0 0) 0 [] :=
  World.ownsRow_made w #[] 0 hb (by unfold maxLen; omega) (by simp)
theorem txV_app (a b : List ByteArray) : txV a ++ txV b = txV (a ++ b) := by simp [txV]
theorem txV_one (T : List ByteArray) : ∀ u ∈ txV T, u.oneCell' = true := txs_one T
end Go.Proofs.YtniphdhbgebedaaGreatDoor
