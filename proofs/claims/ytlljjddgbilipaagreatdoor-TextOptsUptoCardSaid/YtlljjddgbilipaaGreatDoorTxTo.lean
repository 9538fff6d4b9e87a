/-
  The law TextOpts: what it answers.
-/
import Derived.Test.YtlljjddgbilipaaGreatDoorTxOp2
import Derived.Test.YtlljjddgbilipaaGreatDoorTxOp4
import Derived.Test.YtlljjddgbilipaaGreatDoorTxOp5
import Derived.Test.YtlljjddgbilipaaGreatDoorH10
import Derived.Test.YtlljjddgbilipaaGreatDoorH11
import Derived.Test.YtlljjddgbilipaaGreatDoorTxAbY
namespace Go.Proofs.YtlljjddgbilipaaGreatDoor
open Go.RowKit Go.Maps

set_option linter.unusedSimpArgs false

attribute [local go_sem] lt1 lt2 lt3 lt4 lt5 lt6

theorem x_loadrow {P : Program} {w : World} {ρ : Operand → Value} {d : Option Tmp} {ty rt : TypeId} {pos : String} {af : Array Edge} {gd : Option (Nat × Bool)} {x : Operand} {g : Nat} {t : TypeId} {cs : Array Value} {fr : Nat × Nat} {dd : TypeDesc} (hx : ρ x = .pointer (some ⟨g, 0, none⟩)) (hg : w.heap[g]? = some (.cells cs t fr))
    (hu : P.underlying ty = some dd) (hd : (match dd with | .struct _ | .array _ _ => true | _ => false) = true) (hi : (P.info? ty).map (·.size) = some cs.size) :
    (execOp ρ { dst := d, op := .load ty x, type := rt, pos := pos, after := af, guard := gd }).run P w = .ok (.value (.agg cs)) w := by
  rw [x_load, hx]
  simp only [Instr.loadAt, Instr.sureAddr, Sem.run_bind, Sem.run_pure, Result.andThen_ok, run_loadVar_row w g t ty cs fr dd hg hu hd hi]
theorem OpBox.one {w : World} {V : Array Value} {d : OptD} (h : OpBox w V d) : V.all (·.oneCell') = true := by
  obtain ⟨A1, A2, A3, c1, c2, c3, T, kn, ks, rfl, -⟩ := h
  exact opV_one rfl rfl rfl
theorem OpBox.size {w : World} {V : Array Value} {d : OptD} (h : OpBox w V d) : (Tryz.prog.info? 32).map (·.size) = some V.size := by
  obtain ⟨A1, A2, A3, c1, c2, c3, T, kn, ks, rfl, -⟩ := h
  exact sizeOpt
theorem OpBox.zsize {w : World} {V : Array Value} {d : OptD} (h : OpBox w V d) : zOV.toArray.size = V.size := by
  obtain ⟨A1, A2, A3, c1, c2, c3, T, kn, ks, rfl, -⟩ := h
  rfl
theorem RoBox.one {w : World} {V : Array Value} {d : OptD} (h : RoBox w V d) : V.all (·.oneCell') = true := by
  obtain ⟨A1, A2, c1, c2, T, rfl, -⟩ := h
  exact ropV_one rfl rfl
theorem RoBox.size {w : World} {V : Array Value} {d : OptD} (h : RoBox w V d) : (Tryz.prog.info? 39).map (·.size) = some V.size := by
  obtain ⟨A1, A2, c1, c2, T, rfl, -⟩ := h
  exact sizeROpt
theorem RoBox.zsize {w : World} {V : Array Value} {d : OptD} (h : RoBox w V d) : zRV.toArray.size = V.size := by
  obtain ⟨A1, A2, c1, c2, T, rfl, -⟩ := h
  rfl
theorem tailOW_small (a1 a2 a3 a4 a5 a6 b n s k : List UInt8) (r : List (List UInt8)) : (tailOW a1 a2 a3 a4 a5 a6 b n s k r).1.secret = s ∨ (tailOW a1 a2 a3 a4 a5 a6 b n s k r).1.secret = [] := by
  unfold tailOW
  split
  · exact .inr rfl
  · split
    · exact .inr rfl
    · split
      · exact .inr rfl
      · split
        · exact .inl rfl
        · exact .inr rfl
theorem parseOW_secret (l : List (List UInt8)) : (parseOW l).1.secret ∈ l ∨ (parseOW l).1.secret = [] := by
  by_cases h : l.head? = some storyW
  · by_cases h2 : l.length < 11
    · rw [parseOW_short h h2]
      exact .inr rfl
    · rcases l with _ | ⟨w, _ | ⟨a1, _ | ⟨a2, _ | ⟨a3, _ | ⟨a4, _ | ⟨a5, _ | ⟨a6, _ | ⟨b, _ | ⟨n, _ | ⟨s, _ | ⟨k, r⟩⟩⟩⟩⟩⟩⟩⟩⟩⟩⟩ <;> first | (exfalso; simp at h2; done) | skip
      simp only [List.head?_cons, Option.some.injEq] at h
      subst h
      rw [parseOW_tail]
      rcases tailOW_small a1 a2 a3 a4 a5 a6 b n s k r with h | h
      · rw [h]
        exact .inl (by simp)
      · exact .inr h
  · rw [parseOW_head h]
    exact .inr rfl
theorem parse_secret (s : ByteArray) (hs : s.size ≤ 1048576) : (parseOL (toL s)).1.secret.length ≤ 1048576 := by
  unfold parseOL
  split
  · simp [zOpt]
  · rcases parseOW_secret (wordsOf (toL s)) with h | h
    · have h3 := wordsOf_len h
      rw [toL_len] at h3
      omega
    · rw [h]
      simp
def LoPost (w : World) (e : Ending) (w' : World) : Prop := e = .returned (.bool true) ∧ Below w.heap.size w w'
theorem OpBox.lit {w : World} {V : Array Value} {d : OptD} (h : OpBox w V d) : ∃ v0 v1 v2 v3 v4 v5 v6 v7 v8 v9 v10 v11 v12, V = #[v0, v1, v2, v3, v4, v5, v6, v7, v8, v9, v10, v11, v12] := by
  obtain ⟨A1, A2, A3, c1, c2, c3, T, kn, ks, rfl, -⟩ := h
  exact ⟨_, _, _, _, _, _, _, _, _, _, _, _, _, rfl⟩
set_option maxRecDepth 100000 in
set_option maxHeartbeats 8000000 in
theorem textOpts_any (s : ByteArray) (V : Array Value) (d : OptD) (w : World) (hw : Lw w) (hV : OpBox w V d) (hok : OptOk d) : Calls Tryz.prog 3 #[.string s, .agg V] w (LoPost w) := by
  have hV0 := hV
  obtain ⟨A1, A2, A3, c1, c2, c3, T, kn, ks, rfl, hs1, hs2, hT, hs3⟩ := hV
  unfold opV at hV0 ⊢
  obtain ⟨q1, hq1⟩ : ∃ n, n = d.quota := ⟨_, rfl⟩
  obtain ⟨q2, hq2⟩ : ∃ n, n = d.workers := ⟨_, rfl⟩
  obtain ⟨q3, hq3⟩ : ∃ n, n = d.tries := ⟨_, rfl⟩
  obtain ⟨q4, hq4⟩ : ∃ n, n = d.patience := ⟨_, rfl⟩
  obtain ⟨q5, hq5⟩ : ∃ n, n = d.budget := ⟨_, rfl⟩
  obtain ⟨bp, hbp⟩ : ∃ n, n = mkS d.bypass := ⟨_, rfl⟩
  obtain ⟨nm, hnm⟩ : ∃ n, n = mkS d.name := ⟨_, rfl⟩
  obtain ⟨off, hoff⟩ : ∃ n, n = d.offline := ⟨_, rfl⟩
  obtain ⟨n1, hn1⟩ : ∃ n, n = d.sizes.length := ⟨_, rfl⟩
  obtain ⟨n2, hn2⟩ : ∃ n, n = T.length := ⟨_, rfl⟩
  obtain ⟨n3, hn3⟩ : ∃ n, n = d.secret.length := ⟨_, rfl⟩
  rw [← hq1, ← hq2, ← hq3, ← hq4, ← hq5, ← hbp, ← hnm, ← hoff, ← hn1, ← hn2, ← hn3] at hV0 ⊢
  have Hq := Lib.hid (And.intro hq1 (And.intro hq2 (And.intro hq3 (And.intro hq4 hq5))))
  have Hs := Lib.hid (And.intro hbp (And.intro hnm hoff))
  have Hn := Lib.hid (And.intro hn1 (And.intro hn2 hn3))
  have HT := Lib.hid hT
  have H1 := Lib.hid hs1
  have H2 := Lib.hid hs2
  have H3 := Lib.hid hs3
  clear hq1 hq2 hq3 hq4 hq5 hbp hnm hoff hn1 hn2 hn3 hs1 hs2 hs3 hT
  obtain ⟨x0, hx0⟩ : ∃ x0, x0 = w.alloc (.cells #[.int .i64 q1, .slice A1 n1 c1, .int .i64 q2, .int .i64 q3, .int .i64 q4, .int .i64 q5, .slice A2 n2 c2, .string bp, .bool off, .string kn, .string ks, .string nm, .slice A3 n3 c3] 32) := ⟨_, rfl⟩
  have hB0 : Below w.heap.size w x0 := by rw [hx0]; exact (Below.refl _ _).alloc (Nat.le_refl _) _
  have hr0 : x0.heap[w.heap.size]? = some (.cells #[.int .i64 q1, .slice A1 n1 c1, .int .i64 q2, .int .i64 q3, .int .i64 q4, .int .i64 q5, .slice A2 n2 c2, .string bp, .bool off, .string kn, .string ks, .string nm, .slice A3 n3 c3] 32 (0, 0)) := by rw [hx0]; exact heap_alloc_new _ _
  have Hbox0 := Lib.hid (hV0.below hB0)
  have HB0 := Lib.hid hB0
  have Hr0 := Lib.hid hr0
  have Hw := Lib.hid hw
  have Hok := Lib.hid hok
  have Hf := Lib.hid (first_any x0 (hw.below hB0))
  clear hB0 hr0 hw hok hV0
  go_enter Tryz.func3, Tryz.ntmps3
  go_wp2_with fail
  rw [← hx0]
  clear hx0
  refine Hf.out.mono ?_
  rintro e x1 ⟨rfl, hB⟩
  have HB1 := Lib.hid (HB0.out.trans (hB.mono HB0.out.size))
  have Hbox1 := Lib.hid (Hbox0.out.below hB)
  have Hr1 := Lib.hid ((hB.block _ (lt_of_heap Hr0.out)).trans Hr0.out)
  obtain ⟨b, hb⟩ : ∃ b, b = w.heap.size := ⟨_, rfl⟩
  rw [← hb] at Hr1 ⊢
  clear hB Hf HB0 Hbox0 Hr0 hb
  by_cases hs : (20000 : Int) < s.size
  · go_wp2_with fail
    go_ret
    exact ⟨rfl, HB1.out⟩
  have hs2 : s.size ≤ 1048576 := by omega
  have k1 := (blk_cells Hr1.out).1
  have hbl := lt_of_heap Hr1.out
  go_wp2_with fail
  refine (fewOpts_any x1 _ d Hbox1.out Hok.out).mono ?_
  rintro e x2 ⟨⟨fb, rfl, hfb⟩, hB⟩
  have Hfb := Lib.hid hfb
  have HB2 := Lib.hid (HB1.out.trans (hB.mono HB1.out.size))
  have Hbox2 := Lib.hid (Hbox1.out.below hB)
  have Hr2 := Lib.hid ((hB.block _ hbl).trans Hr1.out)
  clear hB HB1 Hbox1 Hr1 k1 hbl hfb
  rcases Bool.eq_false_or_eq_true fb with hf | hf
  · subst hf
    obtain ⟨hf1, hf2⟩ := Hfb.out rfl
    have Hf1 := Lib.hid (And.intro hf1 hf2)
    clear hf1 hf2 Hfb
    go_wp2_with fail
    refine (parseOpts_any s hs2 x2 ((Hw.out.below HB2.out))).mono ?_
    rintro e x3 ⟨VX, rfl, hbx, hB⟩
    obtain ⟨er, her⟩ : ∃ er, er = (parseOL (toL s)).2 := ⟨_, rfl⟩
    obtain ⟨dd, hdd⟩ : ∃ dd, dd = (parseOL (toL s)).1 := ⟨_, rfl⟩
    have hds : dd.secret.length ≤ 1048576 := by rw [hdd]; exact parse_secret s hs2
    rw [← hdd] at hbx
    rw [← her]
    have Her := Lib.hid (And.intro her hdd)
    have Hx3 := Lib.hid hbx
    have hBa := hB.trans (((Below.refl x3.heap.size x3).alloc (Nat.le_refl _) (.cells VX 32)).mono hB.size)
    have HB4 := Lib.hid (HB2.out.trans (hBa.mono HB2.out.size))
    have Hbo4 := Lib.hid (Hbox2.out.below hBa)
    have Hr4 := Lib.hid ((hBa.block _ (lt_of_heap Hr2.out)).trans Hr2.out)
    have Hx4 := Lib.hid (Hx3.out.below ((Below.refl x3.heap.size x3).alloc (Nat.le_refl _) (.cells VX 32)))
    have hrx : (x3.alloc (.cells VX 32)).heap[x3.heap.size]? = some (.cells VX 32 (0, 0)) := heap_alloc_new _ _
    have Hrx4 := Lib.hid hrx
    clear hB hBa hbx her hdd hrx HB2 Hbox2 Hr2
    go_wp2_with ((with_reducible refine at_store 32 ?_); refine wpList_store_new rfl 32 _ _ rfl x3.heap.size rfl VX zOV.toArray 32 rfl rfl Hx3.out.size Hx3.out.zsize Hx3.out.one ?_)
    generalize (x3.alloc (.cells VX 32)) = x4 at *
    obtain ⟨bx, hbx⟩ : ∃ bx, bx = x3.heap.size := ⟨_, rfl⟩
    rw [← hbx] at Hrx4 ⊢
    clear hbx Hx3
    refine (rparseOpts_any s hs2 x4).mono ?_
    rintro e x5 ⟨VY, rfl, hby, hB⟩
    rw [← Her.out.1]
    rw [← Her.out.2] at hby
    have Hy5 := Lib.hid hby
    have hBa := hB.trans (((Below.refl x5.heap.size x5).alloc (Nat.le_refl _) (.cells VY 39)).mono hB.size)
    have HB6 := Lib.hid (HB4.out.trans (hBa.mono HB4.out.size))
    have Hbo6 := Lib.hid (Hbo4.out.below hBa)
    have Hr6 := Lib.hid ((hBa.block _ (lt_of_heap Hr4.out)).trans Hr4.out)
    have Hrx6 := Lib.hid ((hBa.block _ (lt_of_heap Hrx4.out)).trans Hrx4.out)
    have Hx6 := Lib.hid (Hx4.out.below hBa)
    have Hy6 := Lib.hid (Hy5.out.below ((Below.refl x5.heap.size x5).alloc (Nat.le_refl _) (.cells VY 39)))
    have hry : (x5.alloc (.cells VY 39)).heap[x5.heap.size]? = some (.cells VY 39 (0, 0)) := heap_alloc_new _ _
    have Hry6 := Lib.hid hry
    clear hB hBa hby hry HB4 Hbo4 Hr4 Hrx4 Hx4
    obtain ⟨M, hM⟩ : ∃ M, M = (⟨d.secret.toArray⟩ : ByteArray) := ⟨_, rfl⟩
    have HM : Hid (M = mkS d.secret) := Lib.hid hM
    have hcm : (convert 30 9 (.slice A3 n3 c3)).run Tryz.prog (x5.alloc (.cells VY 39)) = .ok (.string M) (x5.alloc (.cells VY 39)) := by
      rw [hM, Hn.out.2.2]
      exact str_of_bs (H3.out.keep (Cells.of_below HB6.out))
    have k6 := (blk_cells Hr6.out).1
    have hbl6 := lt_of_heap Hr6.out
    have hB67 : Below (x5.alloc (.cells VY 39)).heap.size (x5.alloc (.cells VY 39)) ((x5.alloc (.cells VY 39)).alloc (.cells #[.int .i64 q1, .int .i64 q2, .int .i64 q3, .int .i64 q4, .int .i64 q5, .bool off, .string bp, .string nm, .string M, .slice A2 n2 c2, .slice A1 n1 c1] 39)) := (Below.refl _ _).alloc (Nat.le_refl _) _
    have HB7 := Lib.hid (HB6.out.trans (hB67.mono HB6.out.size))
    have Hbo7 := Lib.hid (Hbo6.out.below hB67)
    have Hr7 := Lib.hid ((hB67.block _ (lt_of_heap Hr6.out)).trans Hr6.out)
    have Hrx7 := Lib.hid ((hB67.block _ (lt_of_heap Hrx6.out)).trans Hrx6.out)
    have Hry7 := Lib.hid ((hB67.block _ (lt_of_heap Hry6.out)).trans Hry6.out)
    have Hx7 := Lib.hid (Hx6.out.below hB67)
    have Hy7 := Lib.hid (Hy6.out.below hB67)
    have hrw : ((x5.alloc (.cells VY 39)).alloc (.cells #[.int .i64 q1, .int .i64 q2, .int .i64 q3, .int .i64 q4, .int .i64 q5, .bool off, .string bp, .string nm, .string M, .slice A2 n2 c2, .slice A1 n1 c1] 39)).heap[x5.heap.size + 1]? = some (.cells #[.int .i64 q1, .int .i64 q2, .int .i64 q3, .int .i64 q4, .int .i64 q5, .bool off, .string bp, .string nm, .string M, .slice A2 n2 c2, .slice A1 n1 c1] 39 (0, 0)) := by rw [heap_alloc_if, if_pos (by simp)]
    have Hrw7 := Lib.hid hrw
    have Hro7 : Hid (RoBox ((x5.alloc (.cells VY 39)).alloc (.cells #[.int .i64 q1, .int .i64 q2, .int .i64 q3, .int .i64 q4, .int .i64 q5, .bool off, .string bp, .string nm, .string M, .slice A2 n2 c2, .slice A1 n1 c1] 39)) #[.int .i64 q1, .int .i64 q2, .int .i64 q3, .int .i64 q4, .int .i64 q5, .bool off, .string bp, .string nm, .string M, .slice A2 n2 c2, .slice A1 n1 c1] d) := Lib.hid ⟨A1, A2, c1, c2, T, by rw [HM.out, Hq.out.1, Hq.out.2.1, Hq.out.2.2.1, Hq.out.2.2.2.1, Hq.out.2.2.2.2, Hs.out.1, Hs.out.2.1, Hs.out.2.2, Hn.out.1, Hn.out.2.1]; rfl, H1.out.keep (Cells.of_below HB7.out), H2.out.keep (Cells.of_below HB7.out), HT.out⟩
    have k7 := (blk_cells Hr7.out).1
    clear hB67 hrw
    clear hM
    go_wp2_with (first
      | ((with_reducible refine at_store 39 ?_); refine wpList_store_new rfl 39 _ _ rfl x5.heap.size rfl VY zRV.toArray 39 rfl rfl Hy5.out.size Hy5.out.zsize Hy5.out.one ?_)
      | ((with_reducible refine at_store 39 ?_); refine wpList_store_new rfl 39 _ _ rfl (x5.heap.size + 1) (by simp) #[.int .i64 q1, .int .i64 q2, .int .i64 q3, .int .i64 q4, .int .i64 q5, .bool off, .string bp, .string nm, .string M, .slice A2 n2 c2, .slice A1 n1 c1] zRV.toArray 39 rfl rfl sizeROpt rfl (ropV_one rfl rfl) ?_))
    clear k6 k7 hcm hbl6 HB6 Hbo6 Hr6 Hrx6 Hry6 Hx6 Hy6 Hy5
    generalize ((x5.alloc (.cells VY 39)).alloc (.cells #[.int .i64 q1, .int .i64 q2, .int .i64 q3, .int .i64 q4, .int .i64 q5, .bool off, .string bp, .string nm, .string M, .slice A2 n2 c2, .slice A1 n1 c1] 39)) = x7 at *
    obtain ⟨bw, hbw⟩ : ∃ bw, bw = x5.heap.size + 1 := ⟨_, rfl⟩
    obtain ⟨by_, hby⟩ : ∃ z, z = x5.heap.size := ⟨_, rfl⟩
    rw [← hbw] at Hrw7 ⊢
    rw [← hby] at Hry7 ⊢
    clear hbw hby
    refine (formatOpts_any x7 ((Hw.out.below HB7.out)) _ d Hbo7.out Hok.out).mono ?_
    rintro e x8 ⟨rfl, hB⟩
    have HB8 := Lib.hid (HB7.out.trans (hB.mono HB7.out.size))
    have Hbo8 := Lib.hid (Hbo7.out.below hB)
    have Hr8 := Lib.hid ((hB.block _ (lt_of_heap Hr7.out)).trans Hr7.out)
    have Hrx8 := Lib.hid ((hB.block _ (lt_of_heap Hrx7.out)).trans Hrx7.out)
    have Hry8 := Lib.hid ((hB.block _ (lt_of_heap Hry7.out)).trans Hry7.out)
    have Hrw8 := Lib.hid ((hB.block _ (lt_of_heap Hrw7.out)).trans Hrw7.out)
    have Hx8 := Lib.hid (Hx7.out.below hB)
    have Hy8 := Lib.hid (Hy7.out.below hB)
    have Hro8 := Lib.hid (Hro7.out.below hB)
    have k8 := (blk_cells Hrw8.out).1
    have hbl8 := lt_of_heap Hrw8.out
    obtain ⟨F1, hF1⟩ : ∃ z, z = (formatO d).1 := ⟨_, rfl⟩
    obtain ⟨F2, hF2⟩ : ∃ z, z = (formatO d).2 := ⟨_, rfl⟩
    rw [← hF1, ← hF2]
    have HF := Lib.hid (And.intro hF1 hF2)
    clear hB HB7 Hbo7 Hr7 Hrx7 Hry7 Hrw7 Hx7 Hy7 Hro7 hF1 hF2
    obtain ⟨tt, htt⟩ : ∃ z, z = mkS F1 := ⟨_, rfl⟩
    rw [← htt]
    have Htt := Lib.hid htt
    clear htt
    go_wp2_with fail
    clear k8 hbl8
    refine (rformatOpts_any x8 ((Hw.out.below HB8.out)) _ d Hro8.out Hok.out Hf1.out.1 Hf1.out.2).mono ?_
    rintro e x9 ⟨rfl, hB⟩
    rw [← HF.out.1, ← HF.out.2, ← Htt.out]
    have HB9 := Lib.hid (HB8.out.trans (hB.mono HB8.out.size))
    have Hbo9 := Lib.hid (Hbo8.out.below hB)
    have Hr9 := Lib.hid ((hB.block _ (lt_of_heap Hr8.out)).trans Hr8.out)
    have Hrx9 := Lib.hid ((hB.block _ (lt_of_heap Hrx8.out)).trans Hrx8.out)
    have Hry9 := Lib.hid ((hB.block _ (lt_of_heap Hry8.out)).trans Hry8.out)
    have Hx9 := Lib.hid (Hx8.out.below hB)
    have Hy9 := Lib.hid (Hy8.out.below hB)
    clear hB HB8 Hbo8 Hr8 Hrx8 Hry8 Hrw8 Hx8 Hy8 Hro8
    go_wp2_with fail
    have hdr : Below x9.heap.size x9 x9.drew := ⟨rfl, rfl, rfl, Nat.le_refl _, fun _ _ => rfl⟩
    have s1 : x9.drew.heap[bx]? = some (.cells VX 32 (0, 0)) := Hrx9.out
    have s2 : x9.drew.heap[by_]? = some (.cells VY 39 (0, 0)) := Hry9.out
    have Hxd := Lib.hid (Hx9.out.below hdr)
    have Hyd := Lib.hid (Hy9.out.below hdr)
    have Hbd := Lib.hid (Hbo9.out.below hdr)
    have Hrd := Lib.hid ((hdr.block _ (lt_of_heap Hr9.out)).trans Hr9.out)
    have HBd := Lib.hid (HB9.out.trans (hdr.mono HB9.out.size))
    clear hdr
    with_reducible refine g_mixy [(0, 0), (1, 0), (2, 2), (3, 2), (4, 1), (5, 1), (6, 0), (8, 0), (7, 2), (9, 0), (10, 1), (11, 1), (12, 0), (13, 0), (14, 0), (15, 1), (16, 1), (17, 0), (19, 0), (18, 2), (20, 0), (21, 1)] (fun w' => w'.heap[bx]? = some (.cells VX 32 (0, 0)) ∧ w'.heap[by_]? = some (.cells VY 39 (0, 0))) (by kernel_rfl) (by kernel_rfl) ?_ ?_
    · exact ⟨s1, s2⟩
    intro OPS HDD
    have HD5 : (OPS[5]?).bind (·.dst) = some 90 := HDD 5
    have HD11 : (OPS[11]?).bind (·.dst) = some 96 := HDD 11
    have HD16 : (OPS[16]?).bind (·.dst) = some 101 := HDD 16
    simp only [mixX, nthO, consX]
    refine x_val (v := .agg VX) (fun wy hy => x_loadrow (by simp [Act.eval, Act.put]) hy.1 Tryz.underlying32 rfl Hxd.out.size) ⟨s1, s2⟩ ?_
    refine x_val (v := .agg VY) (fun wy hy => x_loadrow (by simp [Act.eval, Act.put]) hy.2 Tryz.underlying39 rfl Hyd.out.size) ⟨s1, s2⟩ ?_
    with_reducible refine x_one ?_
    refine l_call ?_ ((opts_any x9.drew VY dd Hyd.out hds).mono ?_)
    · go_simp
    rintro e y1 ⟨VZ, rfl, hbz, hB1⟩
    have r1 := (hB1.block _ (lt_of_heap s1)).trans s1
    have r2 := (hB1.block _ (lt_of_heap s2)).trans s2
    refine ⟨_, rfl, ?_⟩
    refine x_keep ⟨r1, r2⟩ ?_
    with_reducible refine x_one ?_
    refine l_call ?_ ((sameOpts_any y1 VX VZ dd (Hxd.out.below hB1) hbz).mono ?_)
    · go_simp
    rintro e y2 ⟨rfl, hB2⟩
    have r3 := (hB2.block _ (lt_of_heap r1)).trans r1
    have r4 := (hB2.block _ (lt_of_heap r2)).trans r2
    have hB12 := hB1.trans (hB2.mono hB1.size)
    have Hb2 := Lib.hid (Hbd.out.below hB12)
    have Hr2 := Lib.hid ((hB12.block _ (lt_of_heap Hrd.out)).trans Hrd.out)
    have HB2 := Lib.hid (HBd.out.trans (hB12.mono HBd.out.size))
    clear hB1 hB2 hB12 r1 r2 s1 s2 Hxd Hyd Hbd Hrd HBd HB9 Hbo9 Hr9 Hrx9 Hry9 Hx9 Hy9 hbz
    refine ⟨_, rfl, ?_⟩
    refine x_keep ⟨r3, r4⟩ ?_
    iterate 2 ((with_reducible refine x_any (v := ?_) ?_ ?_); rotate_left; (rintro _; go_simp; first | done | rfl | (constructor <;> rfl)))
    have HD := HD5
    iterate 2 ((with_reducible refine x_valg (v := ?_) HD ?_ ?_ ?_ ?_); rotate_left; go_simp; (rintro _ _; go_simp; first | done | rfl | (constructor <;> rfl)); exact ⟨r3, r4⟩)
    with_reducible refine x_one ?_
    refine l_onceg HD (by go_simp) ?_
    refine l_call ?_ ((num_any er y2).mono ?_)
    · go_simp
    rintro e w14 ⟨rfl, rfl⟩
    refine ⟨_, rfl, ?_⟩
    refine x_keep ⟨r3, r4⟩ ?_
    iterate 1 ((with_reducible refine x_valg (v := ?_) HD ?_ ?_ ?_ ?_); rotate_left; go_simp; (rintro _ _; go_simp; first | done | rfl | (constructor <;> rfl)); exact ⟨r3, r4⟩)
    iterate 2 ((with_reducible refine x_any (v := ?_) ?_ ?_); rotate_left; (rintro _; go_simp; first | done | rfl | (constructor <;> rfl)))
    have HD := HD11
    iterate 3 ((with_reducible refine x_valg (v := ?_) HD ?_ ?_ ?_ ?_); rotate_left; go_simp; (rintro _ _; go_simp; first | done | rfl | (constructor <;> rfl)); exact ⟨r3, r4⟩)
    iterate 2 ((with_reducible refine x_any (v := ?_) ?_ ?_); rotate_left; (rintro _; go_simp; first | done | rfl | (constructor <;> rfl)))
    have HD := HD16
    iterate 2 ((with_reducible refine x_valg (v := ?_) HD ?_ ?_ ?_ ?_); rotate_left; go_simp; (rintro _ _; go_simp; first | done | rfl | (constructor <;> rfl)); exact ⟨r3, r4⟩)
    with_reducible refine x_one ?_
    refine l_onceg HD (by go_simp) ?_
    refine l_call ?_ ((num_any F2 y2).mono ?_)
    · go_simp
    rintro e w14 ⟨rfl, rfl⟩
    refine ⟨_, rfl, ?_⟩
    refine x_keep ⟨r3, r4⟩ ?_
    iterate 1 ((with_reducible refine x_valg (v := ?_) HD ?_ ?_ ?_ ?_); rotate_left; go_simp; (rintro _ _; go_simp; first | done | rfl | (constructor <;> rfl)); exact ⟨r3, r4⟩)
    iterate 1 ((with_reducible refine x_any (v := ?_) ?_ ?_); rotate_left; (rintro _; go_simp; first | done | rfl | (constructor <;> rfl)))
    with_reducible refine x_end ?_
    simp only [Act.put, List.setIfInBounds_toArray, List.set_cons_zero, List.set_cons_succ]
    clear HDD HD5 HD11 HD16 HD r3 r4
    by_cases hF2 : F2 = 0
    · have HF0 := Lib.hid hF2
      subst hF2
      have hfo : formatO d = (F1, 0) := by rw [HF.out.1]; exact Prod.ext rfl HF.out.2.symm
      obtain ⟨hw0, hp0⟩ := formatO_back hfo (by have := Hok.out.few; omega)
      have htz : tt.size ≤ 1048576 := by
        rw [Htt.out]
        have h : F1.length ≤ 65536 := by
          unfold formatO limP at hfo
          split at hfo
          · split at hfo
            · simp at hfo
            · injection hfo with h1 _
              rw [← h1]
              omega
          · simp at hfo
        simp [mkS, ByteArray.size]
        omega
      have HpF : Hid (parseOL (toL tt) = (d, 0)) := Lib.hid (by
        rw [Htt.out, toL_mkS, parseOL_ok hw0, hp0])
      clear hfo hw0 hp0
      go_wp2_with fail
      refine (parseOpts_any tt htz y2 ((Hw.out.below HB2.out))).mono ?_
      rintro e x10 ⟨VB, rfl, hbb, hB⟩
      rw [HpF.out] at hbb ⊢
      simp only at hbb ⊢
      obtain ⟨g0, g1, g2, g3, g4, g5, g6, g7, g8, g9, g10, g11, g12, rfl⟩ := hbb.lit
      have Hbb := Lib.hid hbb
      have hBa := hB.trans (((Below.refl x10.heap.size x10).alloc (Nat.le_refl _) (.cells #[g0, g1, g2, g3, g4, g5, g6, g7, g8, g9, g10, g11, g12] 32)).mono hB.size)
      have Hba := Lib.hid (hbb.below ((Below.refl x10.heap.size x10).alloc (Nat.le_refl _) (.cells #[g0, g1, g2, g3, g4, g5, g6, g7, g8, g9, g10, g11, g12] 32)))
      have Hoa := Lib.hid (Hb2.out.below hBa)
      have hra := (hBa.block _ (lt_of_heap Hr2.out)).trans Hr2.out
      have HBa := Lib.hid (HB2.out.trans (hBa.mono HB2.out.size))
      have ka := (blk_cells hra).1
      have hbla := lt_of_heap hra
      clear hB hBa hbb HB2 Hb2 Hr2 hra
      go_wp2_with (first
        | ((with_reducible refine at_store 32 ?_); refine wpList_store_new rfl 32 _ _ rfl x10.heap.size rfl #[g0, g1, g2, g3, g4, g5, g6, g7, g8, g9, g10, g11, g12] zOV.toArray 32 rfl rfl Hbb.out.size Hbb.out.zsize Hbb.out.one ?_)
        | (go_at_call 12; refine (num_any _ _).mono ?_; rintro e w' ⟨rfl, rfl⟩))
      refine (sameOpts_any _ _ _ d Hba.out Hoa.out).mono ?_
      rintro e x11 ⟨rfl, hB⟩
      have HBf := Lib.hid (HBa.out.trans (hB.mono HBa.out.size))
      clear hB
      go_wp2_with fail
      go_ret
      exact ⟨rfl, HBf.out⟩
    · have hF2b : (F2 == 0) = false := beq_eq_false_iff_ne.2 hF2
      have hF2c : (F2 != 0) = true := bne_iff_ne.2 hF2
      clear hF2
      go_wp2_with fail
      go_ret
      exact ⟨rfl, HB2.out⟩
  · subst hf
    go_wp2_with fail
    go_ret
    exact ⟨rfl, HB2.out⟩
end Go.Proofs.YtlljjddgbilipaaGreatDoor
