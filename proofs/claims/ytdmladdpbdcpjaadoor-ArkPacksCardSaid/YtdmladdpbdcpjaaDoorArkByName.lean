/-
  Files by rising names: the reference's. (Printed by wip/abexp.py.)
-/
import Derived.Test.YtdmladdpbdcpjaaDoorArkFiles
import Derived.Test.YtdmladdpbdcpjaaDoorArkAbs
import Derived.Laws.AppendOwnNone
namespace Go.Proofs.YtdmladdpbdcpjaaDoor
open Go.RowKit

set_option linter.unusedSimpArgs false

attribute [local go_sem] lt1 lt2 lt3 lt4 lt5 lt6

/-- is a name above another one? (as the walk has it) -/
def gtN (a b : ByteArray) : Bool := !(Op.bytesLess a.toList b.toList || a.toList == b.toList)
/-- the place of a name among the first k of files, from behind -/
def posN (out : List Fl) (x : ByteArray) : Nat → Nat
  | 0 => 0
  | k + 1 => if gtN (out.getD k noFl).1 x then posN out x k else k + 1
theorem posN_le (out : List Fl) (x : ByteArray) : ∀ k, posN out x k ≤ k
  | 0 => Nat.le_refl _
  | k + 1 => by
    unfold posN
    split
    · have := posN_le out x k; omega
    · omega
def insN (out : List Fl) (p : Fl) : List Fl := out.take (posN out p.1 out.length) ++ [p] ++ out.drop (posN out p.1 out.length)
def byName (l : List Fl) : List Fl := l.foldl insN []
theorem insN_length (out : List Fl) (p : Fl) : (insN out p).length = out.length + 1 := by
  unfold insN
  have := posN_le out p.1 out.length
  simp
  omega
theorem byName_snoc (l : List Fl) (p : Fl) : byName (l ++ [p]) = insN (byName l) p := by unfold byName; rw [List.foldl_append]; rfl
theorem foldl_len (l : List Fl) : ∀ out : List Fl, (l.foldl insN out).length = out.length + l.length := by
  induction l with
  | nil => intro out; simp
  | cons p l ih => intro out; rw [List.foldl_cons, ih, insN_length, List.length_cons]; omega
theorem byName_length (l : List Fl) : (byName l).length = l.length := by unfold byName; rw [foldl_len]; simp
/-! ### a row cut -/
theorem All2.take {α β : Type} {Q : α → β → Prop} : ∀ {l : List α} {m : List β} (k : Nat), All2 Q l m → All2 Q (l.take k) (m.take k)
  | _, _, 0, _ => by rw [List.take_zero, List.take_zero]; exact trivial
  | [], [], _ + 1, _ => trivial
  | _ :: _, _ :: _, k + 1, h => ⟨h.1, All2.take k h.2⟩
  | [], _ :: _, _ + 1, h => h.elim
  | _ :: _, [], _ + 1, h => h.elim
theorem All2.drop {α β : Type} {Q : α → β → Prop} : ∀ {l : List α} {m : List β} (k : Nat), All2 Q l m → All2 Q (l.drop k) (m.drop k)
  | _, _, 0, h => h
  | [], [], _ + 1, _ => trivial
  | _ :: _, _ :: _, k + 1, h => All2.drop k h.2
  | [], _ :: _, _ + 1, h => h.elim
  | _ :: _, [], _ + 1, h => h.elim
theorem All2.join {α β : Type} {Q : α → β → Prop} : ∀ {l l' : List α} {m m' : List β}, All2 Q l m → All2 Q l' m' → All2 Q (l ++ l') (m ++ m')
  | [], _, [], _, _, h => h
  | _ :: _, _, _ :: _, _, h, h' => ⟨h.1, All2.join h.2 h'⟩
  | [], _, _ :: _, _, h, _ => h.elim
  | _ :: _, _, [], _, h, _ => h.elim
theorem flat_take {cs : List (List Value)} (h : ∀ c ∈ cs, c.length = 2) (k : Nat) : (cs.take k).flatten = cs.flatten.take (k * 2) := by
  induction cs generalizing k with
  | nil => simp
  | cons c cs ih =>
    cases k with
    | zero => simp
    | succ k =>
      have hc := h c (by simp)
      obtain ⟨x, y, rfl⟩ : ∃ x y, c = [x, y] := by match c, hc with | [x, y], _ => exact ⟨x, y, rfl⟩
      rw [List.take_succ_cons, List.flatten_cons, List.flatten_cons, ih (fun c hc => h c (by simp [hc])), show (k + 1) * 2 = k * 2 + 1 + 1 by omega]
      rfl
theorem flat_drop {cs : List (List Value)} (h : ∀ c ∈ cs, c.length = 2) (k : Nat) : (cs.drop k).flatten = cs.flatten.drop (k * 2) := by
  induction cs generalizing k with
  | nil => simp
  | cons c cs ih =>
    cases k with
    | zero => simp
    | succ k =>
      have hc := h c (by simp)
      obtain ⟨x, y, rfl⟩ : ∃ x y, c = [x, y] := by match c, hc with | [x, y], _ => exact ⟨x, y, rfl⟩
      rw [List.drop_succ_cons, List.flatten_cons, ih (fun c hc => h c (by simp [hc])), show (k + 1) * 2 = k * 2 + 1 + 1 by omega]
      rfl
def cutF (A : Option Addr) (c l : Nat) : Option Addr := if c = l then A else A.map (·.add (l * 2))
theorem slicef_lo (A : Option Addr) (n c l : Nat) (h : l ≤ n) (w : World) : (Instr.slice 22 (.slice A n c) (some (.int .i64 (l : Int))) none none).run Tryd.prog w = .ok (.slice (cutF A c l) (n - l) (c - l)) w := by
  have e : Tryd.prog.elem 22 = 46 := by kernel_rfl
  have ht : Tryd.prog.underlying 22 = some (.slice (Tryd.prog.elem 22)) := by rw [e]; exact Tryd.underlying22
  obtain ⟨i0, hi0, hz0, hz1, hz2⟩ := info_parts infoFile
  rw [run_slice_l (w := w) (ht := ht) (kl := .i64) (h0 := by omega) (h1 := by omega), e]
  simp [sizeOf, typeInfo, hi0, hz1, sliced, cutF]
/-- what stands behind place l of a row -/
theorem tail_cells {w : World} {base g n c l : Nat} {xs : List Value} (h : w.ownsRow base 46 2 (.slice (some ⟨g, 0, none⟩) n c) n xs) (hl : l ≤ n) : ∃ ad, cutF (some ⟨g, 0, none⟩) c l = some ad ∧ ∀ j u, (xs.drop (l * 2))[j]? = some u → w.cell? (ad.add j) = some u := by
  unfold cutF
  by_cases hc : c = l
  · rw [if_pos hc]
    refine ⟨_, rfl, fun j u hj => ?_⟩
    have h1 : xs.length = n * 2 := h.1
    obtain ⟨_, _, he, _, _, h2, _⟩ := own_form h
    simp only [Value.slice.injEq] at he
    rw [List.getElem?_drop, List.getElem?_eq_none (by omega)] at hj
    cases hj
  · rw [if_neg hc]
    refine ⟨_, rfl, fun j u hj => ?_⟩
    rw [List.getElem?_drop] at hj
    have := own_cell h hj
    show w.cell? ((Addr.add ⟨g, 0, none⟩ (l * 2)).add j) = some u
    rw [Addr.add_lit, Addr.add_lit, Nat.zero_add]
    exact this
def BnIn (w0 : World) (out : List Fl) (x : ByteArray) (n : Nat) (kv : Value) (wr : World) : Prop := ∃ k, k ≤ n ∧ kv = .int .i64 (k : Nat) ∧ posN out x out.length = posN out x k ∧ ∃ m, wr = w0.drewN m
def BnRel (w : World) (l : List Fl) (ov iv : Value) (wr : World) : Prop := ∃ i, i ≤ l.length ∧ iv = .int .i64 (i : Nat) ∧ (i = 0 → ov = .slice none 0 0) ∧ FlOwn wr w.heap.size ov (byName (l.take i)) ∧ Below w.heap.size w wr
/-- what stands when a file is laid among others -/
def BnAt (w : World) (v : Value) (out : List Fl) (bb oo i : Nat) (Ai : Option Addr) (ci : Nat) (p : Fl) (wX : World) : Prop :=
  FlOwn wX w.heap.size v out ∧ Below w.heap.size w wX ∧ wX.cell? ⟨bb, oo + i * 2, none⟩ = some (.string p.1) ∧ wX.cell? ⟨bb, oo + i * 2 + 1, none⟩ = some (.slice Ai p.2.length ci) ∧ Bs wX Ai ci p.2
theorem BnAt.drewN {w : World} {v : Value} {out : List Fl} {bb oo i : Nat} {Ai : Option Addr} {ci : Nat} {p : Fl} {wX : World} (h : BnAt w v out bb oo i Ai ci p wX) (m : Nat) : BnAt w v out bb oo i Ai ci p (wX.drewN m) :=
  ⟨h.1.keep (fun _ _ h => h) fun _ _ h => h, ⟨h.2.1.os, h.2.1.tape, h.2.1.output, h.2.1.size, h.2.1.block⟩, h.2.2.1, h.2.2.2.1, h.2.2.2.2.keep fun _ _ h => h⟩
theorem posN_back {out : List Fl} {x : ByteArray} {k : Nat} (hk : 0 < k) (h : gtN (out.getD (k - 1) noFl).1 x = true) : posN out x k = posN out x (k - 1) := by
  obtain ⟨q, rfl⟩ : ∃ q, k = q + 1 := ⟨k - 1, by omega⟩
  rw [Nat.add_sub_cancel] at h ⊢
  rw [posN, if_pos h]
theorem posN_here {out : List Fl} {x : ByteArray} {k : Nat} (h : ¬ (0 < k ∧ gtN (out.getD (k - 1) noFl).1 x = true)) : posN out x k = k := by
  cases k with
  | zero => rfl
  | succ q =>
    rw [posN, if_neg]
    intro hh
    exact h ⟨by omega, by rw [Nat.add_sub_cancel]; exact hh⟩
def BnPost (w : World) (l : List Fl) (e : Ending) (w' : World) : Prop := ∃ v, e = .returned v ∧ FlOwn w' w.heap.size v l ∧ Below w.heap.size w w'
theorem build0F : ∀ w : World, (Instr.buildSlice 22 0 #[]).run Tryd.prog w = .ok (.slice (some ⟨w.heap.size, 0, none⟩) 0 0) (w.alloc (.cells #[] 46)) := fun _ => by kernel_rfl
theorem one_file {Ai : Option Addr} {x : ByteArray} {n c : Nat} : ∀ v ∈ [Value.string x, .slice Ai n c], v.oneCell' = true := by
  intro v hv
  simp only [List.mem_cons, List.not_mem_nil, or_false] at hv
  rcases hv with rfl | rfl <;> rfl
theorem cells_one {w : World} {cs : List (List Value)} {ps : List Fl} (h : All2 (CFl w) cs ps) : ∀ v ∈ cs.flatten, v.oneCell' = true := by
  intro v hv
  obtain ⟨c, hc, hvc⟩ := List.mem_flatten.1 hv
  exact (h.forall_left (R := fun c => ∀ v ∈ c, v.oneCell' = true) fun _ _ hh => hh.one) c hc v hvc
theorem bn_join {w0 w3 : World} {base base' : Nat} {out : List Fl} {p : Fl} {cs : List (List Value)} {k : Nat} {v : Value} {Ai : Option Addr} {ci : Nat} (hc : Cells w0 w3) (hcs : All2 (CFl w0) cs out) (hb : Bs w0 Ai ci p.2) (hpos : posN out p.1 out.length = k)
    (hrow : w3.ownsRow base 46 2 v (out.length + 1) ((cs.take k).flatten ++ [.string p.1, .slice Ai p.2.length ci] ++ (cs.drop k).flatten)) (hbase : base' ≤ base) : FlOwn w3 base' v (insN out p) := by
  refine ⟨cs.take k ++ [[.string p.1, .slice Ai p.2.length ci]] ++ cs.drop k, ?_, ?_⟩
  · unfold insN
    rw [hpos]
    exact ((((hcs.take k).join (show All2 (CFl w0) [[.string p.1, .slice Ai p.2.length ci]] [p] from ⟨⟨Ai, ci, rfl, hb⟩, trivial⟩)).join (hcs.drop k))).mono fun _ _ hh => hh.keep hc
  · rw [insN_length, List.flatten_append, List.flatten_append]
    refine own_base ?_ hbase
    simpa using hrow
set_option maxHeartbeats 4000000 in
set_option maxRecDepth 100000 in
theorem byname_ref (w : World) (A : Option Addr) (c : Nat) (l : List Fl) (hf : FlAt w A c l) (hl : l.length ≤ 1048576) :
    Calls Tryd.prog 33 #[.slice A l.length c] w (BnPost w (byName l)) := by
  have Hf := Lib.hid hf
  clear hf
  obtain ⟨i0, hi0, hz0, hz1, hz2⟩ := info_parts infoFile
  have hb0 := build0F
  go_enter Tryd.func33, Tryd.ntmps33
  go_wp2_with fail
  go_loopw [3, 4] (fun ov iv wr => BnRel w l ov iv wr) (fun _ iv _ => l.length - (intOf iv).toNat)
  case atStart => exact ⟨0, by omega, rfl, fun _ => rfl, FlOwn.nil _ _, Below.refl _ _⟩
  case round =>
    obtain ⟨i, hi, rfl, hzero, hown, hB⟩ := hrel
    have HB := Lib.hid hB
    have hsz := hB.size
    have hol : (byName (l.take i)).length = i := by rw [byName_length, List.length_take]; omega
    have hir : (0 : Int) ≤ i := by omega
    by_cases hlt : i < l.length
    · have hlI : (i : Int) < l.length := by omega
      obtain ⟨bb, oo, Ai, ci, hA, g1, g2, hb⟩ := (Hf.out.below HB.out).at_ hlt
      subst hA
      have Hsn : Hid (byName (l.take (i + 1)) = insN (byName (l.take i)) (l.getD i noFl)) := Lib.hid (by rw [take_getD hlt, byName_snoc])
      have HX := Lib.hid (fun m => BnAt.drewN ⟨hown, hB, g1, g2, hb⟩ m)
      generalize l.getD i noFl = p at *
      generalize byName (l.take i) = out at *
      have Hol := Lib.hid hol
      have hii : i ≤ 1048576 := by omega
      obtain ⟨Av, cv, hov, hnil, hsome, hcap, hmax⟩ := own_form hown.choose_spec.2
      rw [hol] at hov hnil hcap
      have hnext : ∀ v w3, FlOwn w3 w.heap.size v (insN out p) → Below w.heap.size w w3 → BnRel w l v (.int .i64 ((i : Int) + 1)) w3 := fun v w3 h1 h2 => ⟨i + 1, by omega, rfl, fun h => by omega, by rw [Hsn.out]; exact h1, h2⟩
      have Hnext := Lib.hid hnext
      obtain ⟨wo, hwo⟩ : ∃ wo : World, wo = wr := ⟨_, rfl⟩
      rw [← hwo] at HX
      clear hb hB hown g1 g2 hol hnext
      by_cases hi0 : i = 0
      · subst hi0
        obtain rfl := hzero rfl
        have hout : out = [] := List.eq_nil_of_length_eq_zero Hol.out
        subst hout
        clear hov hnil hsome hzero
        go_wp2_with fail
        go_loopw [5] (fun kv wr' => kv = .int .i64 0 ∧ ∃ n, wr' = wo.drewN n) (fun _ _ => 0)
        case atStart => exact ⟨rfl, 0, hwo.symm⟩
        case round =>
          obtain ⟨rfl, hwn⟩ := hrel
          have HX1 : Hid (∀ m, BnAt w (.slice none 0 0) [] bb oo 0 Ai ci p (wr.drewN m)) := Lib.hid fun m => by obtain ⟨n, rfl⟩ := hwn; rw [World.drewN_drewN]; exact HX.out _
          obtain ⟨_, _, hg1, hg2, _⟩ := HX1.out 0
          clear hwn hwo
          go_wp2_with fail
          go_quiet (fail)
          clear hg1 hg2
          have hX := HX1.out nq
          obtain ⟨wX, hwX⟩ : ∃ wX, wX = wr.drewN nq := ⟨_, rfl⟩
          rw [← hwX] at hX ⊢
          clear hwX
          obtain ⟨_, hBX, hg1, hg2, hbX⟩ := hX
          have hszX := hBX.size
          have HBX := Lib.hid hBX
          have HbX := Lib.hid hbX
          have hb1 : Below wX.heap.size wX (wX.alloc (.cells #[] 46)) := (Below.refl _ _).alloc (Nat.le_refl _) _
          have Hb1 := Lib.hid hb1
          have hg1 := Cells.of_below hb1 _ _ hg1
          have hg2 := Cells.of_below hb1 _ _ hg2
          simp only [Nat.zero_mul, Nat.add_zero] at hg1 hg2
          have Hm0 : Hid (∀ o, ((wX.alloc (.cells #[] 46)).alloc o).ownsRow wX.heap.size 46 2 (.slice (some ⟨wX.heap.size, 0, none⟩) 0 0) 0 []) := Lib.hid fun o => World.ownsRow.alloc (World.ownsRow_made wX #[] 0 (Nat.le_refl _) (by simp) (by simp)) o
          have Hm1 : Hid (∀ t j v, [Value.string p.1, .slice Ai p.2.length ci][j]? = some v → ((wX.alloc (.cells #[] 46)).alloc (.cells #[.string p.1, .slice Ai p.2.length ci] t)).cell? ((⟨wX.heap.size + 1, 0, none⟩ : Addr).add j) = some v) := Lib.hid fun t j v hv => World.news_of_block (w := (wX.alloc _).alloc _) (by have := heap_alloc_new (wX.alloc (.cells #[] 46)) (.cells #[.string p.1, .slice Ai p.2.length ci] t); simpa using this) j v hv
          clear hBX hbX hb1
          go_wp2_with (first | (at_builtin; refine wpList_append_own_none rfl (.tmp 33) (.tmp 36) 22 rfl wX.heap.size 46 i0 2 Tryd.underlying22 hi0 _ 0 [] rfl (World.ownsRow_made wX #[] 0 (Nat.le_refl _) (by simp) (by simp)) rfl ?_) | (at_builtin; refine wpList_append_own _ rfl (.tmp 38) (.tmp 43) 22 rfl wX.heap.size 46 i0 (.agg #[.string ⟨#[]⟩, .slice none 0 0]) 2 40 Tryd.underlying22 hi0 hz0 hz1 hz2 rfl (by omega) (.slice (some ⟨wX.heap.size, 0, none⟩) 0 0) 0 [] rfl (Hm0.out _) ⟨wX.heap.size + 1, 0, none⟩ 1 1 [.string p.1, .slice Ai p.2.length ci] rfl rfl (Hm1.out _) one_file (by unfold maxLen; omega) (by omega) (by simp; omega) ?_))
          intro v2 w2 hown2 hgrow2 _
          have hb2 : Below wX.heap.size wX w2 := (Hb1.out.alloc Hb1.out.size _).grown hgrow2 (by simp; omega) (fun q hq => by cases hq; exact Nat.le_refl _)
          have Hown2 := Lib.hid hown2
          clear hown2 hgrow2 hg1 hg2
          have Hfin : Hid (BnRel w l v2 (.int .i64 (((0 : Nat) : Int) + 1)) w2) := Lib.hid (Hnext.out _ _ (bn_join (cs := []) (k := 0) (Cells.of_below hb2) trivial HbX.out rfl (by simpa using Hown2.out) hszX) (HBX.out.trans (hb2.mono hszX)))
          clear hb2
          go_wp2_with (first | (at_builtin; refine wpList_append_own_none rfl (.tmp 45) (.tmp 48) 22 rfl wX.heap.size 46 i0 2 Tryd.underlying22 hi0 _ _ _ rfl Hown2.out rfl ?_))
          exact ⟨Hfin.out, by simp [intOf]; omega⟩
      have hag : ∃ g, Av = some ⟨g, 0, none⟩ := by
        cases Av with
        | none => have := (hnil rfl).1; omega
        | some a => obtain ⟨g, rfl⟩ := hsome a rfl; exact ⟨g, rfl⟩
      obtain ⟨g, rfl⟩ := hag
      subst hov
      clear hnil hsome hzero hi0
      go_wp2_with fail
      have Hst : Hid (BnIn wo out p.1 i (.int .i64 (i : Nat)) wr) := Lib.hid ⟨i, by omega, rfl, by rw [Hol.out], 0, hwo.symm⟩
      go_loopw [5] (fun kv wr' => BnIn wo out p.1 i kv wr') (fun kv _ => (intOf kv).toNat)
      case atStart => exact Hst.out
      case round =>
        obtain ⟨k, hki, rfl, hpos, hwn⟩ := hrel
        have Hwn : Hid (∀ m, ∃ n, wr.drewN m = wo.drewN n) := Lib.hid fun m => by obtain ⟨n, rfl⟩ := hwn; exact ⟨_, World.drewN_drewN _ _ _⟩
        have HX1 := Lib.hid (show BnAt w (.slice (some ⟨g, 0, none⟩) i cv) out bb oo i Ai ci p wr by obtain ⟨n, rfl⟩ := hwn; exact HX.out n)
        have Hpos := Lib.hid hpos
        have hkr : (0 : Int) ≤ k := by omega
        have hsq : k ≠ 0 → wr.cell? ⟨g, (k - 1) * 2, none⟩ = some (.string (out.getD (k - 1) noFl).1) := fun hk0 => by
          obtain ⟨A', c', he, hfa⟩ := HX1.out.1.files
          simp only [Value.slice.injEq] at he
          obtain ⟨rfl, _, rfl⟩ := he
          obtain ⟨_, _, Ai', ci', he2, q1, _, _⟩ := hfa.at_ (i := k - 1) (by have := Hol.out; omega)
          simp only [Option.some.injEq, Addr.mk.injEq] at he2
          obtain ⟨rfl, rfl, _⟩ := he2
          rw [Nat.zero_add] at q1
          exact q1
        have Hsq := Lib.hid hsq
        obtain ⟨_, _, hg1, hg2, _⟩ := HX1.out
        clear hpos hwn Hst hwo hsq
        by_cases hgo : 0 < k ∧ gtN (out.getD (k - 1) noFl).1 p.1 = true
        · obtain ⟨hk0, hgt⟩ := hgo
          have Hst2 : Hid (∀ m, BnIn wo out p.1 i (.int .i64 ((k : Int) - 1)) (wr.drewN m)) := Lib.hid fun m => ⟨k - 1, by omega, by congr 1; omega, by rw [Hpos.out, posN_back hk0 hgt], Hwn.out m⟩
          have q1 := Hsq.out (by omega)
          unfold gtN at hgt
          generalize (out.getD (k - 1) noFl).1 = y at *
          have hkI : (0 : Int) < k := by omega
          have hk1 : (1 : Int) ≤ k := by omega
          have hw1 : IntKind.i64.wrap ((k : Int) - 1) = (k : Int) - 1 := by rw [IntKind.wrap_i64]; omega
          have ht1 : ((k : Int) - 1).toNat = k - 1 := by omega
          have hl1 : (k : Int) - 1 < i := by omega
          have hl0 : (0 : Int) ≤ (k : Int) - 1 := by omega
          clear Hsq
          go_wp2_with fail
          go_quiet (fail)
          go_wp2_with fail
          exact ⟨Hst2.out _, by simp [intOf]; omega⟩
        · have Hexit : Hid (posN out p.1 out.length = k) := Lib.hid (by rw [Hpos.out]; exact posN_here hgo)
          have Hbt : Hid (∀ m, BnAt w (.slice (some ⟨g, 0, none⟩) i cv) out bb oo i Ai ci p (wr.drewN m)) := Lib.hid fun m => HX1.out.drewN m
          have hkcv : (k : Int) ≤ cv := by omega
          have hkiI : (k : Int) ≤ i := by omega
          have hcase : (decide ((0 : Int) < k) = false ∧ decide (0 < k) = false) ∨ (0 < k ∧ gtN (out.getD (k - 1) noFl).1 p.1 = false) := by
            by_cases hk0 : 0 < k
            · exact .inr ⟨hk0, by simpa using fun h => hgo ⟨hk0, h⟩⟩
            · exact .inl ⟨by simp; omega, by simp; omega⟩
          have Hcs0 := HX1
          clear hgo
          have hw1 : IntKind.i64.wrap ((k : Int) - 1) = (k : Int) - 1 := by rw [IntKind.wrap_i64]; omega
          rcases hcase with ⟨hkd, hkn⟩ | ⟨hk0, hgt⟩
          rotate_left
          have q1 := Hsq.out (by omega)
          unfold gtN at hgt
          generalize (out.getD (k - 1) noFl).1 = y at *
          have hkI : (0 : Int) < k := by omega
          have hk1 : (1 : Int) ≤ k := by omega
          have ht1 : ((k : Int) - 1).toNat = k - 1 := by omega
          have hl1 : (k : Int) - 1 < i := by omega
          have hl0 : (0 : Int) ≤ (k : Int) - 1 := by omega
          all_goals
            clear Hsq
            go_wp2_with fail
            go_quiet (fail)
          clear q1 hgt hkI hk1 ht1 hl1 hl0 hk0
          rotate_left
          clear hkd hkn
          all_goals
            clear hg1 hg2 hw1
            have hX := Hbt.out nq
            obtain ⟨wX, hwX⟩ : ∃ wX, wX = wr.drewN nq := ⟨_, rfl⟩
            rw [← hwX] at hX ⊢
            clear hwX
            obtain ⟨⟨cs, hcs, hrow⟩, hBX, hg1, hg2, hbX⟩ := hX
            rw [Hol.out] at hrow
            have hszX := hBX.size
            have hck : ∀ c ∈ cs, c.length = 2 := hcs.forall_left fun c p hh => hh.len
            have hcl : cs.length = i := by rw [hcs.length, Hol.out]
            have Hlen1 : Hid ((cs.take k).flatten.length = k * 2) := Lib.hid (by rw [flat_len (fun c hc => hck c (List.mem_of_mem_take hc)), List.length_take, hcl, Nat.min_eq_left hki])
            have Hlen3 : Hid ((cs.drop k).flatten.length = (i - k) * 2) := Lib.hid (by rw [flat_len (fun c hc => hck c (List.mem_of_mem_drop hc)), List.length_drop, hcl])
            have Hn1 : Hid (∀ o j u, (cs.take k).flatten[j]? = some u → (wX.alloc o).cell? ((⟨g, 0, none⟩ : Addr).add j) = some u) := Lib.hid fun o j u hu => by
              rw [flat_take hck] at hu
              have hj : j < k * 2 := by have := (List.getElem?_eq_some_iff.1 hu).1; rw [List.length_take] at this; omega
              rw [List.getElem?_take_of_lt hj] at hu
              rw [Addr.add_lit, Nat.zero_add]
              exact Cells.alloc _ _ _ _ (own_cell hrow hu)
            obtain ⟨ad, had, htail⟩ := tail_cells hrow hki
            rw [← flat_drop hck] at htail
            have Htail := Lib.hid htail
            have hsl := slicef_lo (some ⟨g, 0, none⟩) i cv k hki
            rw [had] at hsl
            have hone := cells_one hcs
            have Hone1 : Hid (∀ v ∈ (cs.take k).flatten, v.oneCell' = true) := Lib.hid fun v hv => hone v (by rw [flat_take hck] at hv; exact List.mem_of_mem_take hv)
            have Hone3 : Hid (∀ v ∈ (cs.drop k).flatten, v.oneCell' = true) := Lib.hid fun v hv => hone v (by rw [flat_drop hck] at hv; exact List.mem_of_mem_drop hv)
            have Hcs := Lib.hid hcs
            have HBX := Lib.hid hBX
            have HbX := Lib.hid hbX
            have Hg := Lib.hid (And.intro hg1 hg2)
            clear hcs hrow hBX hbX hck hcl htail had hone hg1 hg2
            go_wp2_with (first | (at_builtin; refine wpList_append_own _ rfl (.tmp 33) (.tmp 36) 22 rfl wX.heap.size 46 i0 (.agg #[.string ⟨#[]⟩, .slice none 0 0]) 2 40 Tryd.underlying22 hi0 hz0 hz1 hz2 rfl (by omega) (.slice (some ⟨wX.heap.size, 0, none⟩) 0 0) 0 [] rfl (World.ownsRow_made wX #[] 0 (Nat.le_refl _) (by simp) (by simp)) ⟨g, 0, none⟩ k cv (cs.take k).flatten rfl Hlen1.out (Hn1.out _) Hone1.out (by unfold maxLen; omega) (by omega) (by simp) ?_))
            intro v1 w1 hown1 hgrow1 _
            try simp only [Nat.zero_add, List.nil_append] at hown1
            have hb1 : Below wX.heap.size wX w1 := ((Below.refl _ _).alloc (Nat.le_refl _) _).grown hgrow1 (by simp) (by intro q hq; cases hq; exact Nat.le_refl _)
            have hg1 := Cells.of_below hb1 _ _ Hg.out.1
            have hg2 := Cells.of_below hb1 _ _ Hg.out.2
            have Hown1 := Lib.hid hown1
            have Hb1 := Lib.hid hb1
            have hsz1 := hb1.size
            clear hown1 hgrow1 hb1
            go_wp2_with (first | (at_builtin; refine wpList_append_own _ rfl (.tmp 38) (.tmp 43) 22 rfl wX.heap.size 46 i0 (.agg #[.string ⟨#[]⟩, .slice none 0 0]) 2 40 Tryd.underlying22 hi0 hz0 hz1 hz2 rfl (by omega) v1 k (cs.take k).flatten rfl (Hown1.out.alloc _) ⟨w1.heap.size, 0, none⟩ 1 1 [.string p.1, .slice Ai p.2.length ci] rfl rfl (fun j v hv => World.news_of_block (w := w1.alloc _) (heap_alloc_new w1 _) j v hv) one_file (by unfold maxLen; omega) (by omega) (by simp; omega) ?_))
            intro v2 w2 hown2 hgrow2 _
            have hb2 : Below wX.heap.size wX w2 := (Hb1.out.alloc hsz1 _).grown hgrow2 (by simp; omega) (fun q hq => (own_blk Hown1.out q hq).1)
            have Hown2 := Lib.hid hown2
            have Hb2 := Lib.hid hb2
            have hsz2 := hb2.size
            clear hown2 hgrow2 hb2 hg1 hg2
            go_wp2_with (first | (at_builtin; refine wpList_append_own _ rfl (.tmp 45) (.tmp 48) 22 rfl wX.heap.size 46 i0 (.agg #[.string ⟨#[]⟩, .slice none 0 0]) 2 40 Tryd.underlying22 hi0 hz0 hz1 hz2 rfl (by omega) v2 (k + 1) ((cs.take k).flatten ++ [.string p.1, .slice Ai p.2.length ci]) rfl Hown2.out ad (i - k) (cv - k) (cs.drop k).flatten rfl Hlen3.out (fun j u hu => Cells.of_below Hb2.out _ _ (Htail.out j u hu)) Hone3.out (by unfold maxLen; omega) (by omega) (by omega) ?_))
            intro v3 w3 hown3 hgrow3 _
            have hb3 : Below wX.heap.size wX w3 := Hb2.out.grown hgrow3 hsz2 (fun q hq => (own_blk Hown2.out q hq).1)
            have Hfin : Hid (BnRel w l v3 (.int .i64 ((i : Int) + 1)) w3) := Lib.hid (Hnext.out _ _ (bn_join (Cells.of_below hb3) Hcs.out HbX.out Hexit.out (by rw [show out.length + 1 = k + 1 + (i - k) by have := Hol.out; omega, List.append_assoc]; exact hown3) hszX) (HBX.out.trans (hb3.mono hszX)))
            clear hown3 hgrow3 hb3 hsl
            go_wp2_with fail
            exact ⟨Hfin.out, by simp [intOf]; omega⟩
    · obtain rfl : i = l.length := by omega
      rw [List.take_length] at hown hol
      obtain ⟨Av, cv, rfl, _⟩ := own_form hown.choose_spec.2
      have Hown := Lib.hid hown
      clear hown hzero hB
      go_wp2_with fail
      go_ret
      exact ⟨_, rfl, Hown.out, HB.out⟩
end Go.Proofs.YtdmladdpbdcpjaaDoor
