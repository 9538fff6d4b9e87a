/-
  changes: a change of names, now, and later for good.
  write: does a write that has no error of its own, if it is not the one that fails.
  A file system in memory: a file more; a file that has turned.
-/
import Derived.Test.YtaolddgnannojaaGreatDoorG4
namespace Go.Proofs.YtaolddgnannojaaGreatDoor
open Go.RowKit Go.Maps

attribute [local go_sem] lt1 lt2 lt3 lt4 lt5 lt6

theorem infoChange : (Tryz.prog.info? 63).map (fun i => (i.zero, i.size, i.bytes)) = some (some (.agg #[.string ⟨#[]⟩, .int .i64 0, .nilFunc]), 3, 32) := by kernel_rfl
theorem own_formT {w : World} {base k n : Nat} {t : TypeId} {v : Value} {xs : List Value} (h : w.ownsRow base t k v n xs) : ∃ A cap, v = .slice A n cap := by
  obtain ⟨A, c, h, _⟩ := own_form h
  exact ⟨A, c, h⟩
def FsSt.changes (S : FsSt) (p : Pend) : FsSt := { S with names := p.chg.on S.names, pend := S.pend ++ [p] }
theorem one_change {c : Value} {n : Int} {s : ByteArray} (hc : c.oneCell' = true) : ∀ v ∈ [Value.string s, .int .i64 n, c], v.oneCell' = true := by
  intro v hv
  simp only [List.mem_cons, List.not_mem_nil, or_false] at hv
  rcases hv with rfl | rfl | rfl
  · rfl
  · rfl
  · exact hc
theorem Frm.trans {S : List Nat} {a b c : World} (h : Frm S a b) (k : Frm S b c) : Frm S a c := ⟨h.fr.trans k.fr, h.may⟩
def ChsPost (w : World) (M : FsMem) (S : FsSt) (e : Ending) (w' : World) : Prop := e = .returned (.tuple #[]) ∧ ∃ M', FsAt w' M' S ∧ Gr M w M' w'
set_option maxHeartbeats 2000000 in
set_option maxRecDepth 10000 in
theorem changes_any (w : World) (M : FsMem) (S : FsSt) (h : FsAt w M S) (p : Pend) (v : Value) (hv : ChgAt w p.chg v) (hl : Maps.size S.names < maxLen) (hpl : S.pend.length ≤ 1099511627776) :
    Calls Tryz.prog 26 #[.pointer (some ⟨M.fb, 0, none⟩), .string p.dir, .int .i64 (p.file : Nat), v] w (ChsPost w M (S.changes p)) := by
  obtain ⟨F, cs, rfl, eg, hc⟩ := chg_any w M.nm S.names p.chg v hv h.names hl
  obtain ⟨iC, hiC, hzC, hsC, hbC⟩ := info_parts infoChange
  have c3 : w.cell? ⟨M.fb, 3, none⟩ = some (.map (some M.nm)) := (blk_cells h.blk).1 3
  have H := Lib.hid h
  have Hv := Lib.hid hv
  have Hc := Lib.hid hc
  clear h hv hc
  go_enter Tryz.func26, Tryz.ntmps26
  go_wp2_with (first | (go_at_fn F; refine Hc.out.mono ?_) | go_in)
  rintro e w1 ⟨rfl, hD, hg⟩
  obtain ⟨h1, g1⟩ := H.out.named (Fr.of_grown hg) hD (H.out.natN.chg _)
  have hv1 : ChgAt w1 p.chg (.func (.func F) #[] cs) := Hv.out.kept ⟨g1.fr, fun k hk _ => H.out.mays k hk⟩
  have hsz := hg.size
  obtain ⟨csP, p1, p2⟩ := h1.pend
  obtain ⟨Ap, cp, hpv⟩ := own_formT p2
  have c6 : w1.cell? ⟨M.fb, 6, none⟩ = some M.pv := (blk_cells h1.blk).1 6
  rw [hpv] at c6
  have H1 := Lib.hid h1
  have G1 := Lib.hid g1
  have Hv1 := Lib.hid hv1
  have P1 := Lib.hid p1
  have P2 := Lib.hid p2
  have Hpv := Lib.hid hpv
  clear c3 hD hg h1 g1 hv1 p1 p2 hpv Hc Hv
  go_wp2_with (first | (at_builtin; refine wpList_append_own_at _ rfl _ _ 47 rfl 0 63 iC (.agg #[.string ⟨#[]⟩, .int .i64 0, .nilFunc]) 3 32 Tryz.underlying47 hiC hzC hsC hbC rfl (by omega) M.pv S.pend.length csP.flatten Hpv.out.symm (World.ownsRow.alloc P2.out _) ⟨w1.heap.size, 0, none⟩ 1 1 [.string p.dir, .int .i64 (p.file : Nat), .func (.func F) #[] cs] rfl rfl (fun j v hv => World.news_of_block (heap_alloc_new _ _) j v hv) (one_change rfl) (by unfold maxLen; omega) (by omega) (Nat.zero_le _) ?_))
  intro v' w2 hown hgrow _ hat
  obtain ⟨Av, cv, hv'⟩ := own_formT hown
  have hfr2 : Fr M.pv.ownBlock.toList w1 w2 := (Fr.alloc _ _ _).trans (Fr.of_grown hgrow)
  have hfbn : M.fb ∉ M.pv.ownBlock.toList := fun hh => by
    have h5 := H1.out.nodup
    unfold FsMem.own at h5
    exact (List.nodup_cons.1 h5).1 (by simp only [List.mem_cons, List.mem_append]; exact .inr (.inr (.inr (.inl hh))))
  have hb2 := (hfr2.block _ (lt_of_heap H1.out.blk) hfbn).trans H1.out.blk
  have c6 : w2.cell? ⟨M.fb, 6, none⟩ = some (.slice Ap S.pend.length cp) := by rw [(blk_cells hb2).1 6, ← Hpv.out]; rfl
  have f6 : w2.frozen? ⟨M.fb, 6, none⟩ = false := (blk_cells hb2).2.1 6
  have hb3 := heap_setCell_at hb2 6 v'
  have hfr3 : Fr [M.fb] w2 (w2.setCell ⟨M.fb, 6, none⟩ v') := Fr.setCell _ _ _ _ (by simp)
  have hvb : ∀ b, v'.ownBlock = some b → b ∉ [M.fb] := fun b hb hh => by
    rw [List.mem_singleton.1 hh] at hb
    rcases hat with h5 | h5
    · rw [h5] at hb
      exact hfbn (by rw [hb]; simp)
    · rw [h5] at hb
      have := lt_of_heap H1.out.blk
      simp at hb
      omega
  have hown3 := row_kept hown hfr3 hvb
  have hfr : Fr (M.fb :: M.pv.ownBlock.toList) w1 (w2.setCell ⟨M.fb, 6, none⟩ v') := (hfr2.more fun k hk => by simp [hk]).trans (hfr3.more fun k hk => by rw [List.mem_singleton.1 hk]; simp)
  have hfm : Frm (M.fb :: M.pv.ownBlock.toList) w1 (w2.setCell ⟨M.fb, 6, none⟩ v') := ⟨hfr, fun k hk _ => H1.out.mays k (by
    unfold FsMem.own
    rcases List.mem_cons.1 hk with rfl | hk
    · simp
    · simp only [List.mem_cons, List.mem_append]; exact .inr (.inr (.inr (.inr (.inl hk)))))⟩
  obtain ⟨h4, g4⟩ := H1.out.pended (S' := S.changes p) (pv' := v') hfr hb3 ⟨csP ++ [[.string p.dir, .int .i64 (p.file : Nat), .func (.func F) #[] cs]], (P1.out.mono fun _ _ h => h.kept hfm).append ⟨_, rfl, Hv1.out.kept hfm⟩, by
      rw [List.flatten_append, List.flatten_singleton]
      show World.ownsRow _ 0 _ 3 v' (S.pend ++ [p]).length _
      rw [List.length_append]
      exact hown3⟩ (hat.imp id fun h5 g hg => by rw [h5] at hg; simp at hg; omega) rfl rfl rfl
  have Hfin : Hid (ChsPost w M (S.changes p) (.returned (.tuple #[])) (w2.setCell ⟨M.fb, 6, none⟩ v')) := Lib.hid ⟨rfl, _, h4, G1.out.trans g4⟩
  rw [hv'] at Hfin ⊢
  clear hown hgrow hat hv' hfr2 hfbn hb2 hb3 hfr3 hvb hown3 hfr hfm h4 g4
  go_wp2_with fail
  go_end0
  exact Hfin.out
end Go.Proofs.YtaolddgnannojaaGreatDoor
namespace Go.Proofs.YtaolddgnannojaaGreatDoor
open Go.RowKit Go.Maps

attribute [local go_sem] lt1 lt2 lt3 lt4 lt5 lt6

def FsSt.tick (S : FsSt) : FsSt := { S with armed := S.armed - 1 }
def FsSt.fails (S : FsSt) : FsSt := { S with armed := 0, down := true }
def FsSt.stepped (S : FsSt) : FsSt := { S with steps := S.steps + 1 }
/-- a write that would lead to S2 -/
def FsSt.wrote (S S2 : FsSt) : FsSt := if S.armed = 1 then S.fails else S2.stepped
def FsSt.wrErr (S : FsSt) : Nat := if S.armed = 1 then 5 else 0
def WrPost (w : World) (M : FsMem) (S : FsSt) (n : Nat) (e : Ending) (w' : World) : Prop := e = .returned (.int .i64 (n : Nat)) ∧ ∃ M', FsAt w' M' S ∧ Gr M w M' w'
theorem FsAt.cell {w : World} {M : FsMem} {S : FsSt} (h : FsAt w M S) (i : Nat) (u : Value) (hi : #[Value.int .i64 (S.quota : Nat), .map (some M.fm), .int .i64 (S.last : Nat), .map (some M.nm), .map (some M.dm), .int .i64 S.size, M.pv, .int .i64 (S.steps : Nat), .int .i64 (S.armed : Nat), .bool S.down][i]? = some u) : w.cell? ⟨M.fb, i, none⟩ = some u ∧ w.frozen? ⟨M.fb, i, none⟩ = false :=
  ⟨((blk_cells h.blk).1 i).trans hi, (blk_cells h.blk).2.1 i⟩
/-- a field of its own is written -/
theorem FsAt.put {w : World} {M : FsMem} {S S' : FsSt} (h : FsAt w M S) (i : Nat) (u : Value)
    (hc : (#[Value.int .i64 (S.quota : Nat), .map (some M.fm), .int .i64 (S.last : Nat), .map (some M.nm), .map (some M.dm), .int .i64 S.size, M.pv, .int .i64 (S.steps : Nat), .int .i64 (S.armed : Nat), .bool S.down].setIfInBounds i u) = #[.int .i64 (S'.quota : Nat), .map (some M.fm), .int .i64 (S'.last : Nat), .map (some M.nm), .map (some M.dm), .int .i64 S'.size, M.pv, .int .i64 (S'.steps : Nat), .int .i64 (S'.armed : Nat), .bool S'.down])
    (h1 : S'.names = S.names) (h2 : S'.dur = S.dur) (h3 : S'.files = S.files) (h4 : S'.pend = S.pend) : FsAt (w.setCell ⟨M.fb, i, none⟩ u) M S' ∧ Frm [M.fb] w (w.setCell ⟨M.fb, i, none⟩ u) := by
  have hf : Fr [M.fb] w (w.setCell ⟨M.fb, i, none⟩ u) := Fr.setCell _ _ _ _ (by simp)
  refine ⟨h.turned hf ?_ h1 h2 h3 h4, hf, fun k hk _ => h.mays k (by rw [List.mem_singleton.1 hk]; simp [FsMem.own])⟩
  rw [heap_setCell_at h.blk, hc]
theorem Gr.own {M : FsMem} {w w' : World} (h : Frm [M.fb] w w') : Gr M w M w' := Gr.of_fr h.fr fun k hk => by rw [List.mem_singleton.1 hk]; simp [FsMem.own]
set_option maxHeartbeats 2000000 in
theorem write_of (w : World) (M : FsMem) (S S2 : FsSt) (h : FsAt w M S) (F : FuncId) (cs : Array Value) (eg : ∀ args w, (callFunc F args).run Tryz.prog w = .ok (.enter F args) w) (ha : S.armed ≤ 9223372036854775807) (hs : S2.steps ≤ 1099511627776)
    (hdo : S.armed ≠ 1 → ∀ w1, FsAt w1 M S.tick → Frm [M.fb] w w1 → Calls Tryz.prog F cs w1 (ChsPost w1 M S2)) :
    Calls Tryz.prog 24 #[.pointer (some ⟨M.fb, 0, none⟩), .func (.func F) #[] cs] w (WrPost w M (S.wrote S2) S.wrErr) := by
  have c8 : w.cell? ⟨M.fb, 8, none⟩ = some (.int .i64 (S.armed : Nat)) := (h.cell 8 _ rfl).1
  have f8 : w.frozen? ⟨M.fb, 8, none⟩ = false := (blk_cells h.blk).2.1 8
  have H := Lib.hid h
  have Hdo := Lib.hid hdo
  by_cases h1 : S.armed = 1
  · have hwr : S.wrote S2 = S.fails ∧ S.wrErr = 5 := by unfold FsSt.wrote FsSt.wrErr; rw [if_pos h1, if_pos h1]; exact ⟨rfl, rfl⟩
    rw [hwr.1, hwr.2]
    obtain ⟨h2, f2⟩ := h.put (S' := { S with armed := 0 }) 8 (.int .i64 0) rfl rfl rfl rfl rfl
    have c9 : (w.setCell ⟨M.fb, 8, none⟩ (.int .i64 0)).cell? ⟨M.fb, 9, none⟩ = some (.bool S.down) := (h2.cell 9 _ rfl).1
    have f9 : (w.setCell ⟨M.fb, 8, none⟩ (.int .i64 0)).frozen? ⟨M.fb, 9, none⟩ = false := (blk_cells h2.blk).2.1 9
    obtain ⟨h3, f3⟩ := h2.put (S' := S.fails) 9 (.bool true) rfl rfl rfl rfl rfl
    have Hfin : Hid (WrPost w M S.fails 5 (.returned (.int .i64 5)) ((w.setCell ⟨M.fb, 8, none⟩ (.int .i64 0)).setCell ⟨M.fb, 9, none⟩ (.bool true))) := Lib.hid ⟨rfl, M, h3, (Gr.own f2).trans (Gr.own f3)⟩
    have hI : (0 : Int) < S.armed := by omega
    have hZ : (S.armed : Int) - 1 = 0 := by omega
    clear h hdo hwr h2 f2 h3 f3 Hdo H
    go_enter Tryz.func24, Tryz.ntmps24
    go_wp2_with fail
    go_ret
    exact Hfin.out
  · have hwr : S.wrote S2 = S2.stepped ∧ S.wrErr = 0 := by unfold FsSt.wrote FsSt.wrErr; rw [if_neg h1, if_neg h1]; exact ⟨rfl, rfl⟩
    rw [hwr.1, hwr.2]
    have hend : ∀ (w1 : World) (M1 : FsMem) (w2 : World) (M2 : FsMem), FsAt w2 M2 S2 → Gr M w M2 w2 → w2.cell? ⟨M2.fb, 7, none⟩ = some (.int .i64 (S2.steps : Nat)) ∧ w2.frozen? ⟨M2.fb, 7, none⟩ = false ∧ WrPost w M S2.stepped 0 (.returned (.int .i64 0)) (w2.setCell ⟨M2.fb, 7, none⟩ (.int .i64 ((S2.steps : Int) + 1))) := fun w1 M1 w2 M2 h2 g2 => by
      obtain ⟨h3, f3⟩ := h2.put (S' := S2.stepped) 7 (.int .i64 ((S2.steps : Int) + 1)) rfl rfl rfl rfl rfl
      exact ⟨(h2.cell 7 _ rfl).1, (blk_cells h2.blk).2.1 7, rfl, M2, h3, g2.trans (Gr.own f3)⟩
    have Hend := Lib.hid hend
    by_cases h0 : S.armed = 0
    · have h0n : ¬ (0 : Int) < S.armed := by omega
      have Hc := Lib.hid (hdo h1 w (by
        have e : S.tick = S := by cases S; simp only at h0; subst h0; rfl
        rw [e]; exact h) ⟨Fr.refl _ _, fun k hk _ => h.mays k (by rw [List.mem_singleton.1 hk]; simp [FsMem.own])⟩)
      clear h hdo hwr hend
      go_enter Tryz.func24, Tryz.ntmps24
      go_wp2_with (first | (go_at_fn F; refine Hc.out.mono ?_) | go_in)
      rintro e w2 ⟨rfl, M2, h2, g2⟩
      obtain ⟨c7, f7, hf⟩ := Hend.out w M w2 M2 h2 g2
      have Hf := Lib.hid hf
      rw [← g2.fb]
      clear h2 g2 hf c8 f8
      go_wp2_with fail
      go_ret
      exact Hf.out
    · have h0n : (0 : Int) < S.armed := by omega
      have hne : ¬ (S.armed : Int) - 1 = 0 := by omega
      obtain ⟨h2, f2⟩ := h.put (S' := S.tick) 8 (.int .i64 ((S.armed : Int) - 1)) (by
        have e : ((S.armed - 1 : Nat) : Int) = (S.armed : Int) - 1 := by omega
        show _ = #[Value.int .i64 (S.quota : Nat), .map (some M.fm), .int .i64 (S.last : Nat), .map (some M.nm), .map (some M.dm), .int .i64 S.size, M.pv, .int .i64 (S.steps : Nat), .int .i64 ((S.armed - 1 : Nat) : Int), .bool S.down]
        rw [e]
        rfl) rfl rfl rfl rfl
      have Hc := Lib.hid (hdo h1 _ h2 f2)
      have Hg2 := Lib.hid (Gr.own f2)
      clear h hdo hwr hend h2 f2
      go_enter Tryz.func24, Tryz.ntmps24
      go_wp2_with (first | (go_at_fn F; refine Hc.out.mono ?_) | go_in)
      rintro e w2 ⟨rfl, M2, h2, g2⟩
      obtain ⟨c7, f7, hf⟩ := Hend.out w M w2 M2 h2 (Hg2.out.trans g2)
      have Hf := Lib.hid hf
      rw [← g2.fb]
      clear h2 g2 hf c8 f8
      go_wp2_with fail
      go_ret
      exact Hf.out
end Go.Proofs.YtaolddgnannojaaGreatDoor
namespace Go.Proofs.YtaolddgnannojaaGreatDoor
open Go.RowKit Go.Maps

attribute [local go_sem] lt1 lt2 lt3 lt4 lt5 lt6

theorem insert_last (x : Lit × Dm) : ∀ l : List (Lit × Dm), (∀ y ∈ l, x.1.before y.1 = false) → DataW.insert x l = l ++ [x]
  | [], _ => rfl
  | y :: l, h => by
    unfold DataW.insert
    rw [if_neg (by rw [h y (by simp)]; simp), insert_last x l fun z hz => h z (by simp [hz])]
    rfl
theorem fD_snoc {fs : List (Nat × FileC)} {fl : List (Nat × Value)} (hl : fs.length = fl.length) {n g : Nat} {c : FileC} {v : Value} (hn : ∀ e ∈ fs, e.1 < n) :
    (fD fs fl).put (ik n) (nval g) = fD (fs ++ [(n, c)]) (fl ++ [(g, v)]) := by
  unfold fD DataW.put
  simp only
  have hmem : ∀ y ∈ (fs.zip fl).map (fun p => (ik p.1.1, nval p.2.1)), ∃ a : Nat, a < n ∧ y.1 = ik a := by
    intro y hy
    obtain ⟨p, hp, rfl⟩ := List.mem_map.1 hy
    exact ⟨p.1.1, hn _ (List.of_mem_zip hp).1, rfl⟩
  have hfil : ((fs.zip fl).map (fun p => (ik p.1.1, nval p.2.1))).filter (fun p => !p.1.sameKey (ik n)) = (fs.zip fl).map (fun p => (ik p.1.1, nval p.2.1)) := by
    rw [List.filter_eq_self]
    intro y hy
    obtain ⟨a, ha, e⟩ := hmem y hy
    rw [e, ik_same]
    simp
    omega
  rw [hfil, insert_last _ _ fun y hy => by
    obtain ⟨a, ha, e⟩ := hmem y hy
    rw [e]
    unfold ik Lit.before
    simp
    omega, List.zip_append hl]
  simp
theorem All2.at2 {α β : Type} {Q : α → β → Prop} : ∀ {l : List α} {m : List β} {i : Nat} {a : α} {b : β}, All2 Q l m → l[i]? = some a → m[i]? = some b → Q a b
  | x :: l, y :: m, 0, a, b, h, h1, h2 => by
    simp at h1 h2
    subst h1 h2
    exact h.1
  | x :: l, y :: m, i + 1, a, b, h, h1, h2 => All2.at2 (i := i) h.2 (by simpa using h1) (by simpa using h2)
  | [], _, _, _, _, _, h1, _ => by simp at h1
  | _ :: _, [], _, _, _, h, _, _ => h.elim
theorem FsMem.own_fl (M : FsMem) : M.own = [M.fb, M.fm, M.nm, M.dm] ++ M.pv.ownBlock.toList ++ M.fl.flatMap fun f => f.1 :: f.2.ownBlock.toList := by simp [FsMem.own]
/-- a file more -/
theorem FsAt.filed {w w' : World} {M : FsMem} {S : FsSt} {n gf : Nat} {c : FileC} {v : Value} (h : FsAt w M S) (hf : Fr [M.fm] w w')
    (hown : w'.ownsMap Tryz.prog 3 RPtr M.fm (S.files.length + 1) ((fD S.files M.fl).put (ik n) (nval gf))) (hn : ∀ e ∈ S.files, e.1 < n)
    (hfile : FileAt w' (n, c) (gf, v)) (hg : w.heap.size ≤ gf) (hv : ∀ b, v.ownBlock = some b → w.heap.size ≤ b ∧ b ≠ gf) :
    FsAt w' { M with fl := M.fl ++ [(gf, v)] } { S with files := S.files ++ [(n, c)] } ∧ Gr M w { M with fl := M.fl ++ [(gf, v)] } w' := by
  have hnd := h.nodup
  have hlt := h.lt
  have hown2 : M.own = [M.fb] ++ [M.fm] ++ (M.nm :: M.dm :: (M.pv.ownBlock.toList ++ M.fl.flatMap fun f => f.1 :: f.2.ownBlock.toList)) := by simp [FsMem.own]
  have hfm : Frm [M.fm] w w' := ⟨hf, fun k hk _ => h.mays k (by rw [List.mem_singleton.1 hk]; simp [FsMem.own])⟩
  have ho : ∀ k, (k ∈ [M.fb] ∨ k ∈ (M.nm :: M.dm :: (M.pv.ownBlock.toList ++ M.fl.flatMap fun f => f.1 :: f.2.ownBlock.toList))) → k ∉ [M.fm] := by
    intro k hk hh
    have hh := List.mem_singleton.1 hh
    subst hh
    rw [hown2, List.append_assoc, List.nodup_append] at hnd
    obtain ⟨hX, hBY, hd⟩ := hnd
    rcases hk with hk | hk
    · exact hd _ hk _ (by simp) rfl
    · exact (List.nodup_cons.1 hBY).1 hk
  obtain ⟨cs, p1, p2⟩ := h.pend
  have hnew : FsMem.own { M with fl := M.fl ++ [(gf, v)] } = M.own ++ (gf :: v.ownBlock.toList) := by simp [FsMem.own]
  refine ⟨⟨(hf.block _ (lt_of_heap h.blk) (ho _ (.inl (by simp)))).trans h.blk, map_kept h.names hf (ho _ (.inr (by simp))), map_kept h.dur hf (ho _ (.inr (by simp))), h.natN, h.natD, ?_, ?_, ⟨cs, p1.mono fun _ _ h => h.kept hfm, row_kept p2 hf fun b hb => ho _ (.inr (by simp [hb]))⟩, ?_⟩, ?_⟩
  · rw [fD_snoc (c := c) (v := v) h.each.length hn] at hown
    rw [List.length_append]
    exact hown
  · refine All2.append hfile (all2_kept h.each fun e f hm hfa => hfa.kept hf (ho _ (.inr ?_)) fun b hb => ho _ (.inr ?_))
    · simp only [List.mem_cons, List.mem_append]
      exact .inr (.inr (.inr (List.mem_flatMap.2 ⟨f, hm, by simp⟩)))
    · simp only [List.mem_cons, List.mem_append]
      exact .inr (.inr (.inr (List.mem_flatMap.2 ⟨f, hm, by simp [hb]⟩)))
  · rw [hnew, List.nodup_append]
    refine ⟨hnd, ?_, fun a ha b hb e => ?_⟩
    · rw [List.nodup_cons]
      refine ⟨fun hh => ?_, blk_toList⟩
      have := (hv gf (by simpa using hh)).2
      exact this rfl
    · subst e
      have h1 := hlt a ha
      rcases List.mem_cons.1 hb with rfl | hb
      · omega
      · have := (hv a (by simpa using hb)).1
        omega
  · refine ⟨hf.more fun k hk => by rw [List.mem_singleton.1 hk]; simp [FsMem.own], fun k hk => ?_, rfl⟩
    rw [hnew] at hk
    rcases List.mem_append.1 hk with hk | hk
    · exact .inl hk
    · rcases List.mem_cons.1 hk with rfl | hk
      · exact .inr hg
      · exact .inr (hv k (by simpa using hk)).1
end Go.Proofs.YtaolddgnannojaaGreatDoor
