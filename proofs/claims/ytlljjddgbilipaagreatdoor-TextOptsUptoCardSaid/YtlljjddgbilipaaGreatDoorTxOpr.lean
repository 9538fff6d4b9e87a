/-
  The reference's options in memory; any slice appended to a row of one's own.
-/
import Derived.Test.YtlljjddgbilipaaGreatDoorTxOpp
import Derived.Test.YtlljjddgbilipaaGreatDoorTxRl
import Derived.OwnWalk
namespace Go.Proofs.YtlljjddgbilipaaGreatDoor
open Go.RowKit Go.Maps

def ropV (q1 q2 q3 q4 q5 : Int) (off : Bool) (bp nm sc : ByteArray) (tv sv : Value) : List Value := [.int .i64 q1, .int .i64 q2, .int .i64 q3, .int .i64 q4, .int .i64 q5, .bool off, .string bp, .string nm, .string sc, tv, sv]
theorem sizeROpt : (Tryz.prog.info? 39).map (·.size) = some 11 := by kernel_rfl
theorem ropV_one {q1 q2 q3 q4 q5 : Int} {off : Bool} {bp nm sc : ByteArray} {tv sv : Value} (h1 : tv.oneCell' = true) (h2 : sv.oneCell' = true) : (ropV q1 q2 q3 q4 q5 off bp nm sc tv sv).toArray.all (·.oneCell') = true := all_oneCell_toArray (by
  intro u hu
  simp only [ropV, List.mem_cons, List.not_mem_nil, or_false] at hu
  rcases hu with rfl | rfl | rfl | rfl | rfl | rfl | rfl | rfl | rfl | rfl | rfl <;> first | rfl | exact h1 | exact h2)
def RoBox (w : World) (V : Array Value) (d : OptD) : Prop := ∃ (A1 A2 : Option Addr) (c1 c2 : Nat) (T : List ByteArray), V = (ropV d.quota d.workers d.tries d.patience d.budget d.offline (mkS d.bypass) (mkS d.name) (mkS d.secret) (.slice A2 T.length c2) (.slice A1 d.sizes.length c1)).toArray ∧ Sl w A1 c1 d.sizes.length 1 (iV d.sizes) ∧ Sl w A2 c2 T.length 1 (txs T) ∧ T.map toL = d.tags
theorem RoBox.below {w w' : World} {V : Array Value} {d : OptD} (h : RoBox w V d) (hb : Below w.heap.size w w') : RoBox w' V d := by
  obtain ⟨A1, A2, c1, c2, T, h0, h1, h2, h3⟩ := h
  exact ⟨A1, A2, c1, c2, T, h0, h1.keep (Cells.of_below hb), h2.keep (Cells.of_below hb), h3⟩
theorem append_any {P : Program} (w : World) {ops : Array Oper} {rest : List Oper} {o : Oper} {a : Act} {Q : Exit → Act → World → Prop} (hgd : o.guard = none) (s x : Operand) (t : TypeId)
    (ho : o.op = .call { callee := .builtin .append, args := #[s, x], argTypes := #[t, t] })
    (base : Nat) (e : TypeId) (i : TypeInfo) (z : Value) (bytes : Nat) (ht : P.underlying t = some (.slice e)) (hi : P.info? e = some i) (hz : i.zero = some z)
    (hsize : i.size = 1) (hby : i.bytes = bytes) (hzs : z.cells.size = 1)
    (v : Value) (n : Nat) (xs : List Value) (hs : a.eval s = v) (hown : w.ownsRow base e 1 v n xs)
    (A : Option Addr) (m c : Nat) (ys : List Value) (hx : a.eval x = .slice A m c) (hS : Sl w A c m 1 ys) (h1 : ∀ u ∈ ys, u.oneCell' = true)
    (h63 : n + m ≤ maxLen) (hbytes : (n + m) * bytes ≤ 140737488355328) (hbase : base ≤ w.heap.size)
    (h : ∀ v' w', w'.ownsRow base e 1 v' (n + m) (xs ++ ys) → w.grownBy w' v.ownBlock → wpList P ops Q rest (a.put o.dst v') w') : wpList P ops Q (o :: rest) a w := by
  have hl := hS.len
  cases A with
  | none =>
    obtain ⟨rfl, rfl⟩ := hS.nil rfl
    have hy : ys = [] := List.length_eq_zero_iff.1 (by rw [hl])
    subst hy
    refine wpList_append_own_none hgd s x t ho base e i 1 ht hi v n xs hs hown hx (h v w ?_ (World.grownBy.refl _ _))
    rw [Nat.add_zero, List.append_nil]
    exact hown
  | some ad =>
    refine wpList_append_own w hgd s x t ho base e i z 1 bytes ht hi hz hsize hby hzs (by omega) v n xs hs hown ad m c ys hx hl (fun j u hu => ?_) h1 h63 hbytes hbase (fun v' w' h2 h3 _ => h v' w' h2 h3)
    have hj := (List.getElem?_eq_some_iff.1 hu).1
    obtain ⟨b, o', he, hc⟩ := hS.cells (by omega)
    cases he
    rw [Addr.add_lit, hc j (by omega), hu]
/-- the words, not quoted, as the reference gathers them -/
def rw1 (d : OptD) (j : Nat) : List ByteArray := mkS storyW :: ((nums d).take j).map sI
def rw2 (d : OptD) : List ByteArray := rw1 d 5 ++ [sI (offN d)] ++ [mkS d.bypass, mkS d.name, mkS d.secret, sI d.tags.length]
def rw4 (d : OptD) (T : List ByteArray) (j : Nat) : List ByteArray := rw2 d ++ T ++ (d.sizes.take j).map sI
theorem rw1_len (d : OptD) {j : Nat} (h : j ≤ 5) : (rw1 d j).length = 1 + j := by
  simp [rw1, nums]; omega
theorem rw2_len (d : OptD) : (rw2 d).length = 11 := by simp [rw2, rw1, nums]
theorem rw4_len (d : OptD) (T : List ByteArray) {j : Nat} (h : j ≤ d.sizes.length) : (rw4 d T j).length = 11 + T.length + j := by
  simp only [rw4, List.length_append, rw2_len, List.length_map, List.length_take]; omega
theorem rw1_next (d : OptD) {j : Nat} {n : Int} (h : (nums d)[j]? = some n) : rw1 d (j + 1) = rw1 d j ++ [sI n] := by
  unfold rw1
  rw [take_snoc h, List.map_append]
  rfl
theorem rw4_next (d : OptD) (T : List ByteArray) {j : Nat} {n : Int} (h : d.sizes[j]? = some n) : rw4 d T (j + 1) = rw4 d T j ++ [sI n] := by
  unfold rw4
  rw [take_snoc h, List.map_append, ← List.append_assoc]
  rfl
theorem toL_sI' (n : Int) : toL (sI n) = Lib.itoa n := rfl
theorem rw4_all (d : OptD) (T : List ByteArray) (hT : T.map toL = d.tags) : (rw4 d T d.sizes.length).map toL = optWords d := by
  unfold rw4 rw2 rw1 optWords nums
  rw [List.take_of_length_le (Nat.le_refl _), show List.take 5 [d.quota, d.workers, d.tries, d.patience, d.budget] = [d.quota, d.workers, d.tries, d.patience, d.budget] from rfl]
  have e1 : ∀ l : List Int, (l.map sI).map toL = l.map Lib.itoa := fun l => by
    rw [List.map_map]
    exact List.map_congr_left fun n _ => rfl
  have e3 : toL (sI (offN d)) = (if d.offline = true then [49] else [48]) := by
    rw [toL_sI']
    unfold offN
    cases d.offline
    · simp [itoa01.1]
    · simp [itoa01.2]
  simp only [List.map_append, List.map_cons, List.map_nil, e1, e3, toL_sI', hT, List.cons_append, List.nil_append, toL_mkS]
def numL (d : OptD) : List Int := nums d ++ d.sizes
theorem numL_len (d : OptD) : (numL d).length = 5 + d.sizes.length := by simp [numL, nums]; omega
theorem numL_low (d : OptD) {j : Nat} (h : j < 5) : (numL d)[j]? = (nums d)[j]? := List.getElem?_append_left (by simp [nums]; omega)
theorem numL_high (d : OptD) (j : Nat) : (numL d)[5 + j]? = d.sizes[j]? := by
  rw [numL, List.getElem?_append_right (by simp [nums]), show 5 + j - (nums d).length = j by simp [nums]]
theorem numL_all (d : OptD) : (numL d).all inN = optOk d := by
  unfold numL nums optOk
  simp [Bool.and_assoc]
end Go.Proofs.YtlljjddgbilipaaGreatDoor
