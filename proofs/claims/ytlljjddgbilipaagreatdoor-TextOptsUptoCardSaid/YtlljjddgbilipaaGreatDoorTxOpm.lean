/-
  Options in memory: the words that are written, their bounds.
-/
import Derived.Test.YtlljjddgbilipaaGreatDoorTxOpl
import Derived.Test.YtlljjddgbilipaaGreatDoorTxOp1
import Derived.Test.YtlljjddgbilipaaGreatDoorTxTkq
namespace Go.Proofs.YtlljjddgbilipaaGreatDoor
open Go.RowKit Go.Maps

def iV (l : List Int) : List Value := l.map fun n => .int .i64 n
theorem iV_length (l : List Int) : (iV l).length = l.length := by simp [iV]
theorem iV_one (l : List Int) : ∀ u ∈ iV l, u.oneCell' = true := by
  intro u hu
  simp only [iV, List.mem_map] at hu
  obtain ⟨c, _, rfl⟩ := hu
  rfl
theorem iV_at {w : World} {A : Option Addr} {c : Nat} {x : List Int} (h : Sl w A c x.length 1 (iV x)) {i : Nat} (hi : i < x.length) : ∃ b o n, A = some ⟨b, o, none⟩ ∧ x[i]? = some n ∧ w.cell? ⟨b, o + i, none⟩ = some (.int .i64 n) := by
  obtain ⟨b, o, rfl, hx⟩ := h.cells (by omega)
  refine ⟨b, o, x[i], rfl, List.getElem?_eq_getElem hi, ?_⟩
  rw [hx i (by omega)]
  simp [iV, hi]
/-- options in memory -/
def OpBox (w : World) (V : Array Value) (d : OptD) : Prop := ∃ (A1 A2 A3 : Option Addr) (c1 c2 c3 : Nat) (T : List ByteArray) (kn ks : ByteArray), V = (opV d.quota (.slice A1 d.sizes.length c1) d.workers d.tries d.patience d.budget (.slice A2 T.length c2) (mkS d.bypass) d.offline kn ks (mkS d.name) (.slice A3 d.secret.length c3)).toArray ∧ Sl w A1 c1 d.sizes.length 1 (iV d.sizes) ∧ Sl w A2 c2 T.length 1 (txs T) ∧ T.map toL = d.tags ∧ Bs w A3 c3 d.secret
theorem OpBox.below {w w' : World} {V : Array Value} {d : OptD} (h : OpBox w V d) (hb : Below w.heap.size w w') : OpBox w' V d := by
  obtain ⟨A1, A2, A3, c1, c2, c3, T, kn, ks, h0, h1, h2, h3, h4⟩ := h
  exact ⟨A1, A2, A3, c1, c2, c3, T, kn, ks, h0, h1.keep (Cells.of_below hb), h2.keep (Cells.of_below hb), h3, h4.keep (Cells.of_below hb)⟩
def In64 (n : Int) : Prop := -9223372036854775808 ≤ n ∧ n ≤ 9223372036854775807
structure OptOk (d : OptD) : Prop where
  quota : In64 d.quota
  workers : In64 d.workers
  tries : In64 d.tries
  patience : In64 d.patience
  budget : In64 d.budget
  bypass : d.bypass.length ≤ 1048576
  name : d.name.length ≤ 1048576
  secret : d.secret.length ≤ 1048576
  tags : ∀ t ∈ d.tags, t.length ≤ 1048576
  sizes : ∀ n ∈ d.sizes, In64 n
  few : d.tags.length ≤ 1048576
  few2 : d.sizes.length ≤ 1048576
def nums (d : OptD) : List Int := [d.quota, d.workers, d.tries, d.patience, d.budget]
def sI (n : Int) : ByteArray := mkS (Lib.itoa n)
def sW (l : List UInt8) : ByteArray := mkS (writeW l)
def offN (d : OptD) : Int := if d.offline = true then 1 else 0
/-- the words as they are written, front by front -/
def wr1 (d : OptD) (j : Nat) : List ByteArray := mkS storyW :: ((nums d).take j).map sI
def wr2 (d : OptD) : List ByteArray := wr1 d 5 ++ [sI (offN d)] ++ [sW d.bypass, sW d.name, sW d.secret] ++ [sI d.tags.length]
def wr3 (d : OptD) (j : Nat) : List ByteArray := wr2 d ++ (d.tags.take j).map sW
def wr4 (d : OptD) (j : Nat) : List ByteArray := wr3 d d.tags.length ++ (d.sizes.take j).map sI
theorem wr1_len (d : OptD) {j : Nat} (h : j ≤ 5) : (wr1 d j).length = 1 + j := by
  simp [wr1, nums]; omega
theorem wr2_len (d : OptD) : (wr2 d).length = 11 := by simp [wr2, wr1, nums]
theorem wr3_len (d : OptD) {j : Nat} (h : j ≤ d.tags.length) : (wr3 d j).length = 11 + j := by
  simp only [wr3, List.length_append, wr2_len, List.length_map, List.length_take]; omega
theorem wr4_len (d : OptD) {j : Nat} (h : j ≤ d.sizes.length) : (wr4 d j).length = 11 + d.tags.length + j := by
  simp only [wr4, List.length_append, wr3_len d (Nat.le_refl _), List.length_map, List.length_take]; omega
theorem wr1_next (d : OptD) {j : Nat} {n : Int} (h : (nums d)[j]? = some n) : wr1 d (j + 1) = wr1 d j ++ [sI n] := by
  unfold wr1
  rw [take_snoc h, List.map_append]
  rfl
theorem wr3_next (d : OptD) {j : Nat} {t : List UInt8} (h : d.tags[j]? = some t) : wr3 d (j + 1) = wr3 d j ++ [sW t] := by
  unfold wr3
  rw [take_snoc h, List.map_append, List.append_assoc]
  rfl
theorem wr4_next (d : OptD) {j : Nat} {n : Int} (h : d.sizes[j]? = some n) : wr4 d (j + 1) = wr4 d j ++ [sI n] := by
  unfold wr4
  rw [take_snoc h, List.map_append, List.append_assoc]
  rfl
theorem all_next {l : List Int} {j : Nat} {n : Int} (h : l[j]? = some n) : (l.take (j + 1)).all inN = ((l.take j).all inN && inN n) := by
  rw [take_snoc h, List.all_append]
  simp
theorem storyW_bare : writeW storyW = storyW := by decide
theorem toL_sI (n : Int) : toL (sI n) = writeW (Lib.itoa n) := by rw [itoa_bare]; rfl
theorem toL_sW (l : List UInt8) : toL (sW l) = writeW l := rfl
theorem wr4_all (d : OptD) : (wr4 d d.sizes.length).map toL = (optWords d).map writeW := by
  unfold wr4 wr3 wr2 wr1 optWords nums
  rw [List.take_of_length_le (Nat.le_refl _), List.take_of_length_le (Nat.le_refl _), show List.take 5 [d.quota, d.workers, d.tries, d.patience, d.budget] = [d.quota, d.workers, d.tries, d.patience, d.budget] from rfl]
  have e1 : ∀ l : List Int, (l.map sI).map toL = (l.map Lib.itoa).map writeW := fun l => by
    rw [List.map_map, List.map_map]
    exact List.map_congr_left fun n _ => toL_sI n
  have e2 : ∀ l : List (List UInt8), (l.map sW).map toL = l.map writeW := fun l => by
    rw [List.map_map]
    exact List.map_congr_left fun n _ => toL_sW n
  have e3 : toL (sI (offN d)) = writeW (if d.offline = true then [49] else [48]) := by
    rw [toL_sI]
    unfold offN
    cases d.offline
    · simp [itoa01.1]
    · simp [itoa01.2]
  simp only [List.map_append, List.map_cons, List.map_nil, e1, e2, e3, toL_sI, toL_sW, List.cons_append, List.nil_append, List.append_assoc, List.singleton_append]
  rw [show toL (mkS storyW) = writeW storyW from by rw [storyW_bare]; rfl]
theorem offN_in (d : OptD) : inN (offN d) = true := by
  unfold offN
  cases d.offline <;> decide
theorem optOk_eq (d : OptD) (h : d.tags.length ≤ 1048576) : (((((nums d).take 5).all inN && inN (offN d)) && inN (d.tags.length : Int)) && d.sizes.all inN) = optOk d := by
  have h1 : inN (d.tags.length : Int) = true := by unfold inN; exact decide_eq_true ⟨by omega, by omega⟩
  rw [offN_in, h1]
  unfold optOk nums
  simp [Bool.and_assoc]
theorem optWords_small {d : OptD} (h : OptOk d) : ∀ x ∈ optWords d, x.length ≤ 1048576 := by
  have hi : ∀ n : Int, In64 n → (Lib.itoa n).length ≤ 1048576 := fun n hn => by have := itoa_len hn.1 hn.2; omega
  intro x hx
  unfold optWords at hx
  simp only [List.mem_cons, List.mem_append, List.mem_map] at hx
  rcases hx with rfl | rfl | rfl | rfl | rfl | rfl | rfl | rfl | rfl | rfl | rfl | hx | ⟨n, hn, rfl⟩
  · simp [storyW]
  · exact hi _ h.quota
  · exact hi _ h.workers
  · exact hi _ h.tries
  · exact hi _ h.patience
  · exact hi _ h.budget
  · split <;> simp
  · exact h.bypass
  · exact h.name
  · exact h.secret
  · refine hi _ ⟨by omega, ?_⟩
    have := h.few
    omega
  · exact h.tags x hx
  · exact hi n (h.sizes n hn)
theorem optWords_len (d : OptD) : (optWords d).length = 11 + d.tags.length + d.sizes.length := by
  unfold optWords
  simp only [List.length_cons, List.length_append, List.length_map]
  omega
theorem opt_line {d : OptD} (h : OptOk d) : (joinB ((optWords d).map writeW)).length ≤ 20000000000000 := by
  have h1 := joinB_len 6291458 ((optWords d).map writeW) (fun x hx => by
    obtain ⟨y, hy, rfl⟩ := List.mem_map.1 hx
    have h2 := writeW_len6 y
    have h3 := optWords_small h y hy
    omega)
  rw [List.length_map, optWords_len] at h1
  have h2 := h.few
  have h4 := h.few2
  have h3 : (11 + d.tags.length + d.sizes.length) * (6291458 + 1) ≤ (11 + 1048576 + 1048576) * (6291458 + 1) := Nat.mul_le_mul_right _ (by omega)
  omega
theorem num_at (d : OptD) (b : Nat) {w : World} {sv tv cv : Value} {bp kn ks nm : ByteArray} (hr : w.heap[b]? = some (.cells (opV d.quota sv d.workers d.tries d.patience d.budget tv bp d.offline kn ks nm cv).toArray 32 (0, 0))) {j : Nat} (hj : j < 5) (h : OptOk d) :
    ∃ o n, (numPtrs b).toArray[j]? = some (.pointer (some ⟨b, o, none⟩)) ∧ (nums d)[j]? = some n ∧ w.cell? ⟨b, o, none⟩ = some (.int .i64 n) ∧ In64 n := by
  have hc := (blk_cells hr).1
  rcases j with _ | _ | _ | _ | _ | j
  · exact ⟨0, _, rfl, rfl, hc 0, h.quota⟩
  · exact ⟨2, _, rfl, rfl, hc 2, h.workers⟩
  · exact ⟨3, _, rfl, rfl, hc 3, h.tries⟩
  · exact ⟨4, _, rfl, rfl, hc 4, h.patience⟩
  · exact ⟨5, _, rfl, rfl, hc 5, h.budget⟩
  · omega
end Go.Proofs.YtlljjddgbilipaaGreatDoor
