/-
  The reference: New.
  The reference: a node in memory; Size.
  The reference: Bytes.
  The reference: Read.
  The reference: a node that has turned.
  The reference: Sync.
-/
import Derived.Test.YtaolddgnannojaaGreatDoorG30
import Derived.Laws.AppendOwnNone
import Derived.Laws.OwnMore
namespace Go.Proofs.YtaolddgnannojaaGreatDoor
open Go.RowKit Go.Maps

attribute [local go_sem] lt1 lt2 lt3 lt4 lt5 lt6

def newR (q : Int) : RSt := ⟨(min (max q 0) 67108864).toNat, [], [], [], [], 0, 0, false⟩
def RNewPost (w : World) (R : RSt) (e : Ending) (w' : World) : Prop := ∃ M : RMem, e = .returned (.pointer (some ⟨M.rb, 0, none⟩)) ∧ RAt w' M R ∧ Below w.heap.size w w' ∧ ∀ k, k ∈ M.own → w.heap.size ≤ k
set_option maxHeartbeats 2000000 in
set_option maxRecDepth 100000 in
theorem rnew_any (w : World) (q : Int) : Calls Tryz.prog 7 #[.int .i64 q] w (RNewPost w (newR q)) := by
  have hq : ((min (max q 0) 67108864).toNat : Int) = min (max q 0) 67108864 := by omega
  have Hq := Lib.hid hq
  clear hq
  go_enter Tryz.func7, Tryz.ntmps7
  go_wp2_with fail
  go_ret
  refine ⟨⟨w.heap.size, .slice none 0 0, .slice none 0 0, .slice none 0 0, .slice none 0 0, []⟩, rfl, ⟨?_, World.ownsRow_nil _ _ _ _, trivial, World.ownsRow_nil _ _ _ _, World.ownsRow_nil _ _ _ _, World.ownsRow_nil _ _ _ _, ?_⟩, (Below.refl _ _).alloc (Nat.le_refl _) _, ?_⟩
  · have := heap_alloc_new w (.cells (rCells ⟨w.heap.size, .slice none 0 0, .slice none 0 0, .slice none 0 0, .slice none 0 0, []⟩ (newR q)) 54)
    unfold rCells newR at this ⊢
    simp only at this ⊢
    rw [Hq.out] at this ⊢
    exact this
  · simp [RMem.own, Value.ownBlock]
  · intro k hk
    simp [RMem.own, Value.ownBlock] at hk
    omega
end Go.Proofs.YtaolddgnannojaaGreatDoor
namespace Go.Proofs.YtaolddgnannojaaGreatDoor
open Go.RowKit Go.Maps

attribute [local go_sem] lt1 lt2 lt3 lt4 lt5 lt6

theorem nd_len {ds : List Value} {N : List FileC} : ∀ c ∈ List.zipWith ndCell ds N, c.length = 2 := fun c hc => by
  obtain ⟨i, hi, rfl⟩ := List.getElem_of_mem hc
  rw [List.getElem_zipWith]
  rfl
/-- a node, in memory -/
theorem RAt.node_at {w : World} {M : RMem} {R : RSt} (h : RAt w M R) {i : Nat} (hi : i < R.nodes.length) : ∃ g cn Ad cd, M.nv = .slice (some ⟨g, 0, none⟩) R.nodes.length cn ∧ M.ds[i]? = some (.slice Ad (R.nodes.getD i noNd).d.length cd) ∧
    w.cell? ⟨g, i * 2, none⟩ = some (.slice Ad (R.nodes.getD i noNd).d.length cd) ∧ w.cell? ⟨g, i * 2 + 1, none⟩ = some (.int .i64 ((R.nodes.getD i noNd).sy : Nat)) ∧ Bs w Ad cd (R.nodes.getD i noNd).d := by
  have hN : R.nodes[i]? = some (R.nodes.getD i noNd) := by rw [List.getD_eq_getElem?_getD, List.getElem?_eq_getElem hi]; rfl
  obtain ⟨v, hv, hd⟩ := h.data.at_ hN
  obtain ⟨Ad, cd, rfl, hbs⟩ := data_bs hd
  have hown := h.nodes
  obtain ⟨A, cn, he, hA0, hA1, _, _⟩ := own_form hown
  obtain ⟨g, hg⟩ : ∃ g, A = some ⟨g, 0, none⟩ := by
    cases A with
    | none => have := (hA0 rfl).1; omega
    | some a => obtain ⟨g, rfl⟩ := hA1 a rfl; exact ⟨g, rfl⟩
  subst hg
  rw [he] at hown
  have hz : (List.zipWith ndCell M.ds R.nodes)[i]? = some (ndCell (.slice Ad (R.nodes.getD i noNd).d.length cd) (R.nodes.getD i noNd)) := by
    rw [List.getElem?_zipWith, hv, hN]
  refine ⟨g, cn, Ad, cd, he, hv, own_cell hown ?_, own_cell hown ?_, hbs⟩
  · rw [show i * 2 = i * 2 + 0 by omega]
    exact (flat_at nd_len hz (by omega)).trans rfl
  · exact (flat_at nd_len hz (by omega)).trans rfl
def SzRel (w : World) (R : RSt) (nv iv : Value) (wr : World) : Prop := ∃ k : Nat, k ≤ R.now.length ∧ iv = .int .i64 k ∧ nv = .int .i64 (sumL R.len (R.now.take k) : Nat) ∧ ∃ n, wr = w.drewN n
set_option maxHeartbeats 4000000 in
set_option maxRecDepth 100000 in
theorem rsize_any (w : World) (M : RMem) (R : RSt) (h : RAt w M R) (hin : ∀ p ∈ R.now, p.2 < R.nodes.length) (hz : R.size ≤ 1099511627776) (hl : R.now.length ≤ 1048576) :
    Calls Tryz.prog 56 #[.pointer (some ⟨M.rb, 0, none⟩)] w fun e w' => e = .returned (.int .i64 (R.size : Nat)) ∧ ∃ n, w' = w.drewN n := by
  have H := Lib.hid h
  have Hin := Lib.hid hin
  obtain ⟨Aw, cw, hwv, hat⟩ := h.now.rows
  have c2 : w.cell? ⟨M.rb, 2, none⟩ = some (.slice Aw R.now.length cw) := by rw [← hwv]; exact h.cell 2 _ rfl
  have c1 : w.cell? ⟨M.rb, 1, none⟩ = some M.nv := h.cell 1 _ rfl
  have Hat := Lib.hid hat
  clear h hin hat hwv
  go_enter Tryz.func56, Tryz.ntmps56
  go_wp2_with fail
  go_loopw [3, 4] (fun nv iv wr => SzRel w R nv iv wr) (fun _ iv _ => R.now.length - (intOf iv).toNat)
  case atStart => exact ⟨0, by omega, rfl, rfl, 0, rfl⟩
  case round =>
    obtain ⟨k, hk, rfl, rfl, hwr⟩ := hrel
    have hcw : Cells w wr := by obtain ⟨n, rfl⟩ := hwr; exact fun _ _ h => h
    have Hwd : Hid (∀ m, ∃ n, wr.drewN m = w.drewN n) := Lib.hid fun m => by obtain ⟨n, rfl⟩ := hwr; exact ⟨_, World.drewN_drewN _ _ _⟩
    have d2 := hcw _ _ c2
    have d1 := hcw _ _ c1
    by_cases hlt : k < R.now.length
    · have hkI : (k : Int) < R.now.length := by omega
      obtain ⟨b, o, rfl, q0, q1⟩ := (Hat.out.keep hcw).at_ hlt
      have hil := Hin.out _ (List.getElem_mem hlt)
      have hg : R.now[k] = R.now.getD k noN := by rw [List.getD_eq_getElem?_getD, List.getElem?_eq_getElem hlt]; rfl
      rw [hg] at hil
      obtain ⟨g, cn, Ad, cd, e1, _, e2, _, _⟩ := H.out.node_at hil
      rw [e1] at d1
      have e2 := hcw _ _ e2
      have hs1 : sumL R.len (R.now.take (k + 1)) = sumL R.len (R.now.take k) + (R.nodes.getD (R.now.getD k noN).2 noNd).d.length := by
        rw [List.take_succ_eq_append_getElem hlt, sumL_app, hg]
        simp [sumL, RSt.len]
      have hs2 : sumL R.len (R.now.take (k + 1)) ≤ 1099511627776 := by
        have h1 : R.size = sumL R.len (R.now.take (k + 1)) + sumL R.len (R.now.drop (k + 1)) := by
          rw [← sumL_app, List.take_append_drop]
          rfl
        omega
      have Hs1 := Lib.hid hs1
      rw [hs1] at hs2
      clear hs1 hg hwr hcw
      generalize R.now.getD k noN = p at *
      obtain ⟨dl, hdl⟩ : ∃ dl, dl = (R.nodes.getD p.2 noNd).d.length := ⟨_, rfl⟩
      rw [← hdl] at e2 Hs1 hs2
      obtain ⟨sm, hsm⟩ : ∃ sm, sm = sumL R.len (R.now.take k) := ⟨_, rfl⟩
      rw [← hsm] at Hs1 hs2 ⊢
      have hilI : (p.2 : Int) < R.nodes.length := by omega
      clear hdl hsm
      go_wp2_with fail
      go_quiet (fail)
      go_wp2
      go_roundw
      case rel => exact ⟨k + 1, by omega, by go_num, by rw [Hs1.out]; go_num, Hwd.out _⟩
      case measure => simp [intOf]; omega
    · obtain rfl : k = R.now.length := by omega
      have Hwr := Lib.hid hwr
      clear hwr hcw
      rw [List.take_length]
      go_wp2_with fail
      go_ret
      exact ⟨rfl, Hwr.out⟩
end Go.Proofs.YtaolddgnannojaaGreatDoor
namespace Go.Proofs.YtaolddgnannojaaGreatDoor
open Go.RowKit

attribute [local go_sem] lt1 lt2 lt3 lt4 lt5 lt6

theorem infoU8r : (Tryz.prog.info? 5).map (fun i => (i.zero, i.size, i.bytes)) = some (some (.int .u8 0), 1, 1) := by kernel_rfl
def BytesPostR (x : List UInt8) (w : World) (e : Ending) (w' : World) : Prop :=
  ∃ v, e = .returned v ∧ w'.ownsRow w.heap.size 5 1 v x.length (u8s x) ∧ Below w.heap.size w w'
set_option maxRecDepth 10000 in
theorem rbytes_any (x : List UInt8) (A : Option Addr) (c : Nat) (w : World) (hx : x.length ≤ 1048576) (h1 : Bs w A c x) :
    Calls Tryz.prog 70 #[.slice A x.length c] w (BytesPostR x w) := by
  have H1 := Lib.hid h1
  clear h1
  obtain ⟨i0, hi0, hz0, hz1, hz2⟩ := info_parts infoU8r
  cases A with
  | none =>
    obtain ⟨hx0, rfl⟩ := H1.out.nil rfl
    have hxn : x = [] := List.eq_nil_of_length_eq_zero hx0
    subst hxn
    clear H1
    go_enter Tryz.func70, Tryz.ntmps70
    go_wp2_with (first | (at_builtin; refine wpList_append_own_none rfl _ _ 29 rfl w.heap.size 5 i0 1 Tryz.underlying29 hi0 _ 0 [] rfl ?hw rfl ?_))
    case hw => exact World.ownsRow_made w #[] 0 (Nat.le_refl _) (by simp) (by simp)
    go_wp2
    go_ret
    exact ⟨_, rfl, World.ownsRow_made w #[] 0 (Nat.le_refl _) (by simp) (by simp), (Below.refl _ _).alloc (Nat.le_refl _) _⟩
  | some ad =>
    go_enter Tryz.func70, Tryz.ntmps70
    go_wp2_with (first | (at_builtin; refine wpList_append_own _ rfl _ _ 29 rfl w.heap.size 5 i0 (.int .u8 0) 1 1 Tryz.underlying29 hi0 hz0 hz1 hz2 rfl (by omega) _ 0 [] rfl ?hw ad x.length c (u8s x) rfl ?hl ?hc (u8s_one x) ?h1 ?h2 ?h3 ?_))
    case hw => exact World.ownsRow_made w #[] 0 (Nat.le_refl _) (by simp) (by simp)
    case hl => simp [u8s]
    case hc =>
      intro j u hu
      have hj : j < x.length := by have := (List.getElem?_eq_some_iff.1 hu).1; simpa [u8s] using this
      obtain ⟨b, o, hbo, hcell⟩ := H1.out.cells (by omega)
      have : ad = ⟨b, o, none⟩ := Option.some.inj hbo
      subst this
      rw [Addr.add_lit]
      exact Cells.alloc _ _ _ _ ((hcell j (by omega)).trans hu)
    case h1 => simp [maxLen]; omega
    case h2 => omega
    case h3 => simp
    intro v' w' hown hgrow _
    go_wp2
    go_ret
    refine ⟨v', rfl, by simpa using hown, ?_⟩
    exact ((Below.refl _ _).alloc (Nat.le_refl _) _).grown hgrow (by simp) (by intro k hk; cases hk; exact Nat.le_refl _)
end Go.Proofs.YtaolddgnannojaaGreatDoor
namespace Go.Proofs.YtaolddgnannojaaGreatDoor
open Go.RowKit Go.Maps

attribute [local go_sem] lt1 lt2 lt3 lt4 lt5 lt6

def RReadPost (w : World) (R : RSt) (s : ByteArray) (e : Ending) (w' : World) : Prop := Below w.heap.size w w' ∧ (match rat R.now s with
  | none => e = .returned (.tuple #[.slice none 0 0, .int .i64 2])
  | some i => ∃ A c, e = .returned (.tuple #[.slice A (R.nodes.getD i noNd).d.length c, .int .i64 0]) ∧ w'.ownsRow w.heap.size 5 1 (.slice A (R.nodes.getD i noNd).d.length c) (R.nodes.getD i noNd).d.length (u8s (R.nodes.getD i noNd).d))
set_option maxHeartbeats 4000000 in
set_option maxRecDepth 100000 in
theorem rread_any (w : World) (M : RMem) (R : RSt) (h : RAt w M R) (hin : ∀ p ∈ R.now, p.2 < R.nodes.length) (hd : ∀ c ∈ R.nodes, c.d.length ≤ 1048576) (s : ByteArray) :
    Calls Tryz.prog 43 #[.pointer (some ⟨M.rb, 0, none⟩), .string s] w (RReadPost w R s) := by
  obtain ⟨P, hP⟩ : ∃ P, P = RReadPost w R s := ⟨_, rfl⟩
  rw [← hP]
  have HP := Lib.hid hP
  have H := Lib.hid h
  obtain ⟨Aw, cw, hwv, hat⟩ := h.now.rows
  have c2 : w.cell? ⟨M.rb, 2, none⟩ = some (.slice Aw R.now.length cw) := by rw [← hwv]; exact h.cell 2 _ rfl
  have Hat := Lib.hid hat
  clear hP h hat hwv
  go_enter Tryz.func43, Tryz.ntmps43
  go_wp2_with fail
  refine (at_any w Aw cw R.now s Hat.out).mono ?_
  rintro e w1 ⟨rfl, n1, hw1⟩
  have h1 : RAt w1 M R := by rw [hw1]; exact H.out.drewN n1
  have B1 := Lib.hid (show Below w.heap.size w w1 by rw [hw1]; exact ⟨rfl, rfl, rfl, Nat.le_refl _, fun _ _ => rfl⟩)
  have hs1 : w1.heap.size = w.heap.size := by rw [hw1]; rfl
  have Hs1 := Lib.hid hs1
  have H1 := Lib.hid h1
  clear hw1 h1 c2 Hat hs1
  cases hr : rat R.now s with
  | none =>
    have Hend : Hid (P (.returned (.tuple #[.slice none 0 0, .int .i64 2])) w1) := Lib.hid (by
      rw [HP.out]
      unfold RReadPost
      rw [hr]
      exact ⟨B1.out, rfl⟩)
    simp only [atInt]
    go_wp2_with fail
    exact Hend.out
  | some i =>
    have hil := hin _ (rat_mem hr)
    simp only at hil
    have hdl := hd (R.nodes.getD i noNd) (by rw [List.getD_eq_getElem?_getD, List.getElem?_eq_getElem hil]; exact List.getElem_mem hil)
    have Hr := Lib.hid hr
    obtain ⟨g, cn, Ad, cd, e1, _, e2, _, hbs⟩ := H1.out.node_at hil
    have c1 : w1.cell? ⟨M.rb, 1, none⟩ = some (.slice (some ⟨g, 0, none⟩) R.nodes.length cn) := by rw [← e1]; exact H1.out.cell 1 _ rfl
    obtain ⟨d, hdd⟩ : ∃ d, d = (R.nodes.getD i noNd).d := ⟨_, rfl⟩
    rw [← hdd] at hdl e2 hbs
    have Hdd := Lib.hid hdd
    have hi0 : ¬ (i : Int) < 0 := by omega
    have hiI : (i : Int) < R.nodes.length := by omega
    have Hbs := Lib.hid hbs
    clear hdd hbs hr hin hd e1 H1
    simp only [atInt]
    go_wp2_with fail
    refine (rbytes_any d Ad cd w1 hdl Hbs.out).mono ?_
    rintro e w2 ⟨v, rfl, hrow, hb⟩
    obtain ⟨A2, c2, hv⟩ := own_formT hrow
    subst hv
    have Hend : Hid (P (.returned (.tuple #[.slice A2 d.length c2, .int .i64 0])) w2) := Lib.hid (by
      rw [HP.out]
      unfold RReadPost
      rw [Hr.out]
      refine ⟨B1.out.trans (hb.mono B1.out.size), A2, c2, ?_, ?_⟩
      · rw [← Hdd.out]
      · rw [← Hdd.out, ← Hs1.out]
        exact hrow)
    clear hrow hb
    go_wp2_with fail
    exact Hend.out
end Go.Proofs.YtaolddgnannojaaGreatDoor
namespace Go.Proofs.YtaolddgnannojaaGreatDoor
open Go.RowKit Go.Maps

attribute [local go_sem] lt1 lt2 lt3 lt4 lt5 lt6

theorem flat_set {k : Nat} : ∀ {cs : List (List Value)} {i j : Nat} {u : Value} {c : List Value} (_ : ∀ c ∈ cs, c.length = k) (_ : cs[i]? = some c) (_ : j < k), cs.flatten.set (i * k + j) u = (cs.set i (c.set j u)).flatten
  | [], i, j, u, c, _, h, _ => by simp at h
  | d :: cs, 0, j, u, c, hl, h, hj => by
    simp at h
    subst h
    have hd : d.length = k := hl d (by simp)
    simp only [Nat.zero_mul, Nat.zero_add, List.flatten_cons, List.set_cons_zero]
    rw [List.set_append_left _ _ (by omega)]
  | d :: cs, i + 1, j, u, c, hl, h, hj => by
    have hd : d.length = k := hl d (by simp)
    simp only [List.getElem?_cons_succ] at h
    have ih := flat_set (u := u) (fun c hc => hl c (by simp [hc])) h hj
    simp only [List.flatten_cons, List.set_cons_succ]
    have e : (i + 1) * k + j = d.length + (i * k + j) := by rw [hd, Nat.add_mul]; omega
    rw [e, List.set_append_right _ _ (by omega), Nat.add_sub_cancel_left, ih]
theorem all2_len {α β : Type} {Q : α → β → Prop} : ∀ {l : List α} {m : List β}, All2 Q l m → l.length = m.length
  | [], [], _ => rfl
  | _ :: l, _ :: m, h => by simp [all2_len h.2]
  | [], _ :: _, h => h.elim
  | _ :: _, [], h => h.elim
theorem all2_set {α β : Type} {Q : α → β → Prop} : ∀ {l : List α} {m : List β} {i : Nat} {a : α} {b : β}, All2 Q l m → Q a b → All2 Q (l.set i a) (m.set i b)
  | [], [], _, _, _, _, _ => trivial
  | _ :: _, _ :: _, 0, _, _, h, hq => ⟨hq, h.2⟩
  | _ :: _, _ :: _, i + 1, _, _, h, hq => ⟨h.1, all2_set h.2 hq⟩
  | [], _ :: _, _, _, _, h, _ => h.elim
  | _ :: _, [], _, _, _, h, _ => h.elim
theorem set_self {α : Type} {l : List α} {i : Nat} {a : α} (h : l[i]? = some a) : l.set i a = l := by
  apply List.ext_getElem?
  intro j
  by_cases hj : i = j
  · subst hj
    rw [List.getElem?_set_self (List.getElem?_eq_some_iff.1 h).1, h]
  · rw [List.getElem?_set_ne hj]
/-- how much of a node is durable has turned -/
theorem RAt.setSy {w : World} {M : RMem} {R : RSt} (h : RAt w M R) {i : Nat} (hi : i < R.nodes.length) {g cn : Nat} (hnv : M.nv = .slice (some ⟨g, 0, none⟩) R.nodes.length cn) (sy : Nat) :
    RAt (w.setCell ⟨g, i * 2 + 1, none⟩ (.int .i64 (sy : Nat))) M (R.node i ⟨(R.nodes.getD i noNd).d, sy⟩) ∧ RGr M w M (w.setCell ⟨g, i * 2 + 1, none⟩ (.int .i64 (sy : Nat))) := by
  have hN : R.nodes[i]? = some (R.nodes.getD i noNd) := by rw [List.getD_eq_getElem?_getD, List.getElem?_eq_getElem hi]; rfl
  obtain ⟨v, hv, hd⟩ := h.data.at_ hN
  have hown := h.nodes
  rw [hnv] at hown
  obtain ⟨h1, h2⟩ := hown.stored (i * 2 + 1) (.int .i64 (sy : Nat))
  have hf : Fr [g] w (w.setCell ⟨g, i * 2 + 1, none⟩ (.int .i64 (sy : Nat))) := Fr.setCell _ _ _ _ (by simp)
  have hgo : M.nv.ownBlock = some g := by rw [hnv]; rfl
  have hnd : ([M.rb] ++ (M.nv.ownBlock.toList ++ (M.wv.ownBlock.toList ++ (M.sv.ownBlock.toList ++ (M.pv.ownBlock.toList ++ M.ds.flatMap fun v => v.ownBlock.toList))))).Nodup := h.nodup
  obtain ⟨hA, hC⟩ := nodup_mid hnd g (by rw [hgo]; simp)
  have ho : ∀ k, (k = M.rb ∨ M.wv.ownBlock = some k ∨ M.sv.ownBlock = some k ∨ M.pv.ownBlock = some k ∨ ∃ v ∈ M.ds, v.ownBlock = some k) → k ∉ [g] := fun k hk hh => by
    rw [List.mem_singleton.1 hh] at hk
    rcases hk with e | e
    · exact hA (by simp [e])
    · refine hC ?_
      simp only [List.mem_append, Option.mem_toList, List.mem_flatMap]
      exact e
  refine ⟨⟨(hf.block _ (lt_of_heap h.blk) (ho _ (.inl rfl))).trans h.blk, ?_, ?_, row_kept h.now hf fun b hb => ho b (.inr (.inl hb)), row_kept h.safe hf fun b hb => ho b (.inr (.inr (.inl hb))), row_kept h.pend hf fun b hb => ho b (.inr (.inr (.inr (.inl hb)))), h.nodup⟩,
    hf.more fun k hk => by rw [List.mem_singleton.1 hk]; exact RMem.mem_own.2 (.inr (.inl hgo)), fun _ h => .inl h, rfl⟩
  · show (w.setCell _ _).ownsRow 0 96 2 M.nv (R.nodes.set i _).length (ndCells M.ds (R.nodes.set i ⟨(R.nodes.getD i noNd).d, sy⟩))
    rw [List.length_set, hnv]
    have hz : (List.zipWith ndCell M.ds R.nodes)[i]? = some (ndCell v (R.nodes.getD i noNd)) := by rw [List.getElem?_zipWith, hv, hN]
    have e : (ndCells M.ds R.nodes).set (i * 2 + 1) (.int .i64 (sy : Nat)) = ndCells M.ds (R.nodes.set i ⟨(R.nodes.getD i noNd).d, sy⟩) := by
      unfold ndCells
      rw [flat_set nd_len hz (by omega)]
      congr 1
      apply List.ext_getElem?
      intro j
      by_cases hj : i = j
      · subst hj
        rw [List.getElem?_set_self (List.getElem?_eq_some_iff.1 hz).1, List.getElem?_zipWith, hv, List.getElem?_set_self hi]
        rfl
      · rw [List.getElem?_set_ne hj, List.getElem?_zipWith, List.getElem?_zipWith, List.getElem?_set_ne hj]
    rw [← e]
    exact h1
  · have h5 : All2 (fun v c => DataAt w v (FileC.d c)) (M.ds.set i v) (R.nodes.set i ⟨(R.nodes.getD i noNd).d, sy⟩) := all2_set h.data hd
    rw [set_self hv] at h5
    exact all2_mem h5 fun v _ hv hd => data_kept hd hf fun b hb => ho b (.inr (.inr (.inr (.inr ⟨v, hv, hb⟩))))
end Go.Proofs.YtaolddgnannojaaGreatDoor
namespace Go.Proofs.YtaolddgnannojaaGreatDoor
open Go.RowKit Go.Maps

attribute [local go_sem] lt1 lt2 lt3 lt4 lt5 lt6

set_option maxHeartbeats 4000000 in
set_option maxRecDepth 100000 in
theorem rsync_any (w : World) (M : RMem) (R : RSt) (h : RAt w M R) (hl : RLim R) (hin : ∀ p ∈ R.now, p.2 < R.nodes.length) (s : ByteArray) :
    Calls Tryz.prog 34 #[.pointer (some ⟨M.rb, 0, none⟩), .string s] w (ROut w M (R.sync s)) := by
  obtain ⟨P, hP⟩ : ∃ P, P = ROut w M (R.sync s) := ⟨_, rfl⟩
  rw [← hP]
  have HP := Lib.hid hP
  have H := Lib.hid h
  have HL := Lib.hid hl
  have c7 : w.cell? ⟨M.rb, 7, none⟩ = some (.bool R.out) := h.cell 7 _ rfl
  obtain ⟨Aw, cw, hwv, hat⟩ := h.now.rows
  have c2 : w.cell? ⟨M.rb, 2, none⟩ = some (.slice Aw R.now.length cw) := by rw [← hwv]; exact h.cell 2 _ rfl
  have Hat := Lib.hid hat
  clear hP h hl hat hwv
  by_cases ho : R.out = true
  · have Hend : Hid (P (.returned (.int .i64 5)) w) := Lib.hid (by
      rw [HP.out]
      unfold RSt.sync
      rw [if_pos ho]
      exact ⟨rfl, M, H.out, RGr.refl _ _⟩)
    rw [ho] at c7
    go_enter Tryz.func34, Tryz.ntmps34
    go_wp2_with fail
    exact Hend.out
  have hof : R.out = false := by simpa using ho
  rw [hof] at c7
  go_enter Tryz.func34, Tryz.ntmps34
  go_wp2_with fail
  refine (at_any w Aw cw R.now s Hat.out).mono ?_
  rintro e w1 ⟨rfl, n1, hw1⟩
  have h1 : RAt w1 M R := by rw [hw1]; exact H.out.drewN n1
  have B1 := Lib.hid (show Below w.heap.size w w1 by rw [hw1]; exact ⟨rfl, rfl, rfl, Nat.le_refl _, fun _ _ => rfl⟩)
  have H1 := Lib.hid h1
  clear hw1 h1 c7 c2 Hat
  cases hr : rat R.now s with
  | none =>
    have Hend : Hid (P (.returned (.int .i64 2)) w1) := Lib.hid (by
      rw [HP.out]
      unfold RSt.sync
      rw [if_neg ho, hr]
      exact ⟨rfl, M, H1.out, RGr.of_below B1.out⟩)
    show _
    simp only [atInt]
    go_wp2_with fail
    exact Hend.out
  | some i =>
    have hil := hin _ (rat_mem hr)
    simp only at hil
    have hi0 : ¬ (i : Int) < 0 := by omega
    simp only [atInt]
    go_wp2_with fail
    refine (fails_any w1 M R H1.out hof HL.out.armed (by have := HL.out.done; omega)).mono ?_
    rintro e w2 ⟨rfl, M2, h2, g2⟩
    by_cases ha : R.armed = 1
    · rw [if_pos ha] at h2
      rw [decide_eq_true ha]
      have Hend : Hid (P (.returned (.int .i64 5)) w2) := Lib.hid (by
        rw [HP.out]
        unfold RSt.sync
        rw [if_neg ho, hr]
        simp only
        rw [if_pos ha]
        exact ⟨rfl, M2, h2, (RGr.of_below B1.out).trans g2⟩)
      clear h2 g2 ha
      go_wp2_with fail
      exact Hend.out
    · rw [if_neg ha] at h2
      rw [decide_eq_false ha]
      have hil2 : i < R.did.nodes.length := hil
      have h2d := h2.drewN 1
      obtain ⟨g, cn, Ad, cd, e1, _, e2, e3, hbs⟩ := h2d.node_at hil2
      obtain ⟨h3, g3⟩ := h2d.setSy hil2 e1 (R.did.nodes.getD i noNd).d.length
      have hfr : (w2.drewN 1).frozen? ⟨g, i * 2 + 1, none⟩ = false := by
        have := h2d.nodes
        rw [e1] at this
        exact this.frozenAt _
      have c1 : (w2.drewN 1).cell? ⟨M2.rb, 1, none⟩ = some (.slice (some ⟨g, 0, none⟩) R.nodes.length cn) := by
        have h9 : M2.nv = .slice (some ⟨g, 0, none⟩) R.nodes.length cn := e1
        rw [← h9]
        exact h2d.cell 1 _ rfl
      have hdL : (R.did.nodes.getD i noNd).d.length ≤ 9223372036854775807 := by have h7 := hbs.le; have h8 := hbs.big; unfold maxLen at h8; omega
      have Hend : Hid (P (.returned (.int .i64 0)) ((w2.drewN 1).setCell ⟨g, i * 2 + 1, none⟩ (.int .i64 ((R.did.nodes.getD i noNd).d.length : Nat)))) := Lib.hid (by
        rw [HP.out]
        unfold RSt.sync
        rw [if_neg ho, hr]
        simp only
        rw [if_neg ha]
        exact ⟨rfl, M2, h3, ((RGr.of_below (M := M) B1.out).trans g2).trans ((show RGr M2 w2 M2 (w2.drewN 1) from RGr.of_below ⟨rfl, rfl, rfl, Nat.le_refl _, fun _ _ => rfl⟩).trans g3)⟩)
      rw [← g2.rb]
      have hiI : (i : Int) < R.nodes.length := by omega
      obtain ⟨dl, hdl⟩ : ∃ dl, dl = (R.did.nodes.getD i noNd).d.length := ⟨_, rfl⟩
      rw [← hdl] at e2 hdL Hend
      have Hend2 : Hid (P (.returned (.int .i64 0)) (w2.setCell ⟨g, i * 2 + 1, none⟩ (.int .i64 (dl : Nat))).drew) := Hend
      have e3' : w2.cell? ⟨g, i * 2 + 1, none⟩ = some (.int .i64 ((R.did.nodes.getD i noNd).sy : Nat)) := e3
      have hfr' : w2.frozen? ⟨g, i * 2 + 1, none⟩ = false := hfr
      clear h2 g2 ha h3 g3 hbs e1 h2d hdl hr Hend
      go_wp2_with fail
      with_reducible refine g_mixx [(0, 0), (1, 0), (2, 0), (3, 0), (4, 0), (5, 0), (6, 0), (7, 0), (8, 0), (9, 0), (10, 0), (11, 0), (12, 0), (13, 0), (14, 0), (15, 0), (16, 3)] (fun w' => w'.cell? ⟨M2.rb, 1, none⟩ = some (.slice (some ⟨g, 0, none⟩) R.nodes.length cn) ∧ w'.cell? ⟨g, i * 2, none⟩ = some (.slice Ad dl cd)) 0 _ rfl (by kernel_rfl) (by kernel_rfl) ?_ ?_
      · exact ⟨c1, e2⟩
      intro OPS HD
      simp only [mixX, nthO, consX]
      iterate 16 ((with_reducible refine x_val (v := ?_) ?_ ?_ ?_); rotate_left; (rintro _ ⟨h1, h2⟩; go_simp; first | done | rfl | (constructor <;> rfl)); exact ⟨c1, e2⟩)
      with_reducible refine x_three ?_
      with_reducible refine l_skip (w' := (w2.setCell ⟨g, i * 2 + 1, none⟩ (.int .i64 (dl : Nat))).drew) ?_ ?_
      · go_simp
      refine x_last ?_
      with_reducible refine x_end ?_
      simp only [Act.put, List.setIfInBounds_toArray, List.set_cons_zero, List.set_cons_succ]
      go_wp2_with fail
      exact Hend2.out
end Go.Proofs.YtaolddgnannojaaGreatDoor
