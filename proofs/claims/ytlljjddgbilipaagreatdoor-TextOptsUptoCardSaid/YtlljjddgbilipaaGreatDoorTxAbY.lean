/-
  A drawn region with more than one guard, in a given order (as in the archive's texts).
-/
import Derived.Test.YtlljjddgbilipaaGreatDoorTxAbs
namespace Go.Proofs.YtlljjddgbilipaaGreatDoor
open Go.RowKit

section
variable {P : Program} {ops : Array Oper} {Q : Exit → Act → World → Prop} {S : World → Prop}
theorem o_mixy {id : Nat} {l : List Oper} {R : Act → World → Prop} {a : Act} {w : World} (m : List (Nat × Nat)) (S : World → Prop) (hm : P.follows .mixedOrders = true) (hB : planX .any l.toArray m = true) (hS : S w.drew)
    (h : ∀ OPS : Array Oper, (∀ gi : Nat, (OPS[gi]?).bind (·.dst) = (l[gi]?).bind (·.dst)) → wpX P OPS (only R) S (mixX m l) a w.drew) : (Code.region id l.toArray true).wp P (only R) a w := by
  simp only [planX, Bool.and_eq_true, decide_eq_true_eq, List.all_eq_true] at hB
  obtain ⟨⟨⟨⟨h1, h2⟩, h3⟩, _⟩, h4⟩ := hB
  refine wp_region_any hm (wpAny_of_D (S := S) (L := firstX m) _ _ _ _ ?_)
  show wpAnyD P .any l.toArray (only R) S (firstX m) l.toArray.size _ a w.drew
  have hdn : false = dn (firstX m) l.toArray.size (Array.replicate l.toArray.size false) := by
    symm
    unfold dn
    rw [List.any_eq_false]
    intro x _
    rw [getD_replicate_false]
    simp
  have key := wpAnyD_mix (P := P) (ops := l.toArray) (Q := only R) (md := .any) (S := S) (L := firstX m) h1 (fun j hj => firstX_lt m _ j h3 hj) only_panic l rfl m false (Array.replicate l.toArray.size false) a w.drew h3 (by simp) h4
    ⟨by simp, (fun j oj _ hj => by rw [getD_replicate_false] at hj; cases hj), (fun t ht ht' => by omega)⟩ hdn (.inr hS) (h _ fun gi => by simp)
  rw [h2] at key
  exact key
theorem g_mixy {id : Nat} {l : List Oper} {a : Act} {w : World} (m : List (Nat × Nat)) (S : World → Prop) (hm : P.follows .mixedOrders = true) (hB : planX .any l.toArray m = true) (hS : S w.drew)
    (h : ∀ OPS : Array Oper, (∀ gi : Nat, (OPS[gi]?).bind (·.dst) = (l[gi]?).bind (·.dst)) → wpX P OPS (only (Q .normal)) S (mixX m l) a w.drew) : (Code.region id l.toArray true).wp P Q a w :=
  o_link (o_mixy m S hm hB hS h) fun _ _ h => h
theorem wanted_no {o : Oper} {gi : Nat} {dg : Tmp} {b : Bool} {a : Act} (hd : (ops[gi]?).bind (·.dst) = some dg) (hg : o.guard = some (gi, b)) (hb : a.eval (.tmp dg) = undef) : Region.wanted o (yielded ops a.tmps) = false := by
  simp only [Act.eval, Array.getD_eq_getD_getElem?] at hb
  simp only [Region.wanted, hg, yielded, hd, Option.bind_some]
  cases h : a.tmps[dg]? with
  | none => rfl
  | some v =>
    rw [h] at hb
    simp only [Option.getD_some] at hb
    rw [hb]
    rfl
end
section
variable {P : Program} {ops : Array Oper} {Q : Exit → Act → World → Prop} {S : World → Prop} {a : Act} {w : World} {d : Option Tmp} {op : Op} {ty : TypeId} {pos : String} {af : Array Edge} {gi : Nat} {dg : Tmp} {b : Bool}
theorem x_outu {rest : List (Nat × Oper)} (hd : (ops[gi]?).bind (·.dst) = some dg) (hb : a.eval (.tmp dg) = undef) (hS : S w) (h : wpX P ops Q S rest (a.put d undef) w) :
    wpX P ops Q S ((0, { dst := d, op := op, type := ty, pos := pos, after := af, guard := some (gi, b) }) :: rest) a w := ⟨undef, .inr ⟨wanted_no hd rfl hb, rfl⟩, hS, h⟩
/-- a guarded operation that is to be walked alone, left out -/
theorem x_oneg {rest : List (Nat × Oper)} {c : Bool} (hd : (ops[gi]?).bind (·.dst) = some dg) (hb : a.eval (.tmp dg) = .bool c) (hc : (c == b) = false) (hS : S w) (h : wpX P ops Q S rest (a.put d undef) w) :
    wpX P ops Q S ((2, { dst := d, op := op, type := ty, pos := pos, after := af, guard := some (gi, b) }) :: rest) a w := x_one (l_outg hd hb hc (x_keep hS h))
theorem l_outu {rest : List Oper} (hd : (ops[gi]?).bind (·.dst) = some dg) (hb : a.eval (.tmp dg) = undef) (h : wpList P ops Q rest (a.put d undef) w) :
    wpList P ops Q ({ dst := d, op := op, type := ty, pos := pos, after := af, guard := some (gi, b) } :: rest) a w := by
  have hw : Region.wanted { dst := d, op := op, type := ty, pos := pos, after := af, guard := some (gi, b) } (yielded ops a.tmps) = false := wanted_no hd rfl hb
  simp only [wpList, hw]
  exact h
theorem x_onegu {rest : List (Nat × Oper)} (hd : (ops[gi]?).bind (·.dst) = some dg) (hb : a.eval (.tmp dg) = undef) (hS : S w) (h : wpX P ops Q S rest (a.put d undef) w) :
    wpX P ops Q S ((2, { dst := d, op := op, type := ty, pos := pos, after := af, guard := some (gi, b) }) :: rest) a w := x_one (l_outu hd hb (x_keep hS h))
end
end Go.Proofs.YtlljjddgbilipaaGreatDoor
