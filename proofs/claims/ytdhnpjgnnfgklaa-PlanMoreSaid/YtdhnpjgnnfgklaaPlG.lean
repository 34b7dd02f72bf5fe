/- Plan (chapter 39): many (more than most of some places in one part), crowded. -/
import Derived.Test.YtdhnpjgnnfgklaaPlF
import Derived.Test.YtdhnpjgnnfgklaaMapE
namespace Go.Proofs.Ytdhnpjgnnfgklaa
set_option linter.unusedSimpArgs false
set_option linter.unusedVariables false
open Go.RowKit
set_option maxRecDepth 100000
attribute [local irreducible] wpX wpF Calls
attribute [local go_sem] run_mkMapG

/-- How often a part stands in a list. -/
def cntP (f : P6 → P6) (rs : List P6) (x : P6) : Nat := rs.countP fun q => decide (f q = x)
theorem cntP_take (f : P6 → P6) {rs : List P6} {j : Nat} (hj : j < rs.length) (x : P6) : cntP f (rs.take (j + 1)) x = cntP f (rs.take j) x + if f rs[j]! = x then 1 else 0 := by
  unfold cntP
  rw [List.take_add_one, List.countP_append, List.getElem?_eq_getElem hj, getElem!_pos rs j hj]
  simp [List.countP_cons]
theorem cntP_le (f : P6 → P6) (rs : List P6) (j : Nat) (x : P6) : cntP f (rs.take j) x ≤ cntP f rs x := List.Sublist.countP_le (List.take_sublist _ _)
theorem cntP_len (f : P6 → P6) (rs : List P6) (x : P6) : cntP f rs x ≤ rs.length := List.countP_le_length
theorem crowd_of (f : P6 → P6) {rs : List P6} {most : Int} (h : ∀ x, 0 < cntP f rs x → (cntP f rs x : Int) ≤ most) : crowdP f rs most = false := by
  unfold crowdP
  rw [List.any_eq_false]
  intro r hr
  have h1 : 0 < cntP f rs (f r) := List.countP_pos_iff.2 ⟨r, hr, by simp⟩
  have := h _ h1
  unfold cntP at this
  simp only [decide_eq_true_iff, Int.not_lt]; exact this
theorem crowd_at (f : P6 → P6) {rs : List P6} {most : Int} {j : Nat} (hj : j < rs.length) (h : most < (cntP f (rs.take (j + 1)) (f rs[j]!) : Int)) : crowdP f rs most = true := by
  unfold crowdP
  rw [List.any_eq_true]
  refine ⟨rs[j]!, by rw [getElem!_pos rs j hj]; exact List.getElem_mem _, ?_⟩
  have h1 := cntP_le f rs (j + 1) (f rs[j]!)
  unfold cntP at h1
  rw [decide_eq_true_iff]
  unfold cntP at h
  omega
theorem HTpi : Try.prog.underlying 74 = some (.map 39 3) := Try.underlying74
theorem HEpi (w : World) : (zeroValue 3).run Try.prog w = .ok (.int .i64 0) w := by kernel_rfl
set_option maxHeartbeats 8000000 in
theorem many_any (g : Nat) (eg : ∀ args w, (callFunc g args).run Try.prog w = .ok (.enter g args) w) (f : P6 → P6) (hf : ∀ p W, Calls Try.prog g #[kP p] W (Gives (kP (f p)) W)) (most : Int) {sa : Option Addr} (c : Nat) {rs : List P6} (hx : rs.length ≤ 100000) (w : World) (hl : Lies w w.heap.size sa 6 rs.length (fun j => pC rs[j]!)) :
    Calls Try.prog 29 #[.slice sa rs.length c, .func (.func g) #[] #[], .int .i64 most] w (Gives (.bool (crowdP f rs most)) w) := by
  have HL := Lib.hid hl
  have HF := Lib.hid hf
  clear hl hf
  go_enter Try.func29, Try.ntmps29
  have H := HS.start NoD w
  go_upto_region 2 with fail
  generalize hwb : World.alloc _ _ = w3
  replace H := HS.eqW hwb H.allocObj
  clear hwb
  simp only [List.nil_append] at H
  generalize w.heap.size = bM at H ⊢
  skip
  try clear C
  try simp only [World.size_alloc, List.nil_append, List.cons_append, List.append_assoc] at H
  have C := H.cells
  try simp only [cellsOf, cellsM, apartOf, apartM, and_true] at C
  go_wp2_with fail
  go_loopw [13] (fun i wr => ∃ (j : Nat) (es : Array MapEntry) (clock : Nat) (M : List (P6 × Value)), i = .int .i64 j ∧ j ≤ rs.length ∧ Hid (MapG kP es clock M) ∧ Hid (∀ x, (getG x M).getD (.int .i64 0) = .int .i64 (cntP f (rs.take j) x)) ∧ Hid (∀ x, 0 < cntP f (rs.take j) x → (cntP f (rs.take j) x : Int) ≤ most) ∧ HS NoD w [.obj bM (.map es clock)] wr) (fun i _ => rs.length - (intOf i).toNat)
  case atStart => exact ⟨0, #[], 0, [], rfl, Nat.zero_le _, MapG.nil kP, (show Hid _ from fun x => rfl), (show Hid _ from fun x hx => absurd hx (by simp [cntP])), H⟩
  case round =>
    clear H C
    obtain ⟨j, es, clock, M, rfl, hj, HM, HV, HC, H⟩ := hrel
    skip
    try clear C
    try simp only [World.size_alloc, List.nil_append, List.cons_append, List.append_assoc] at H
    have C := H.cells
    try simp only [cellsOf, cellsM, apartOf, apartM, and_true] at C
    by_cases hlt : j < rs.length
    · obtain ⟨b, o, rfl, hb, hc⟩ := (H.lies HL.out).at hlt
      have hji : (j : Int) < rs.length := by omega
      have hcl := cntP_len f (rs.take j) (f rs[j]!)
      have hcl2 : (rs.take j).length ≤ rs.length := by simp; omega
      obtain ⟨q, hq⟩ : ∃ q, q = rs[j]! := ⟨_, rfl⟩
      have HQ := Lib.hid hq
      have HV0 := Lib.hid (HV.out (f q))
      rw [← hq] at hc hcl
      obtain ⟨n, hn⟩ : ∃ n : Nat, n = cntP f (rs.take j) (f q) := ⟨_, rfl⟩
      rw [← hn] at HV0 hcl
      have HN := Lib.hid hn
      have HFQ := Lib.hid (fun W => HF.out q W)
      generalize hfq : f q = y at HFQ HV0 HN
      have HFY := Lib.hid hfq
      clear hfq hn hq
      have hn5 : (n : Int) ≤ 100000 := by omega
      clear hcl hcl2
      obtain ⟨p0, p1, p2, p3, p4, p5⟩ := q
      have c0 : wr.cell? ⟨b, o + j * 6, none⟩ = some (.int .i64 p0) := hc 0 _ rfl
      have c1 : wr.cell? ⟨b, o + j * 6 + 1, none⟩ = some (.int .i64 p1) := hc 1 _ rfl
      have c2 : wr.cell? ⟨b, o + j * 6 + 2, none⟩ = some (.int .i64 p2) := hc 2 _ rfl
      have c3 : wr.cell? ⟨b, o + j * 6 + 3, none⟩ = some (.int .i64 p3) := hc 3 _ rfl
      have c4 : wr.cell? ⟨b, o + j * 6 + 4, none⟩ = some (.int .i64 p4) := hc 4 _ rfl
      have c5 : wr.cell? ⟨b, o + j * 6 + 5, none⟩ = some (.int .i64 p5) := hc 5 _ rfl
      clear hc hb
      go_upto_region 5 with fail
      clear c0 c1 c2 c3 c4 c5
      generalize hwb : wr.alloc _ = w1
      replace H := HS.eqW hwb H.alloc
      try simp only [World.size_alloc, List.nil_append, List.cons_append, List.append_assoc] at H
      clear hwb
      generalize wr.heap.size = bP at H ⊢
      try clear C
      try clear wr
      have C := H.cells
      try simp only [cellsOf, cellsM, apartOf, apartM, and_true] at C
      refine wp_region_zH (by kernel_rfl) (by kernel_rfl) (by kernel_rfl) (by kernel_rfl) (by kernel_rfl) (by dsimp only [List.dropLast]) rfl (SMap kP NoD w (fun ob => [.obj bM ob, .blk bP #[.int .i64 p0, .int .i64 p1, .int .i64 p2, .int .i64 p3, .int .i64 p4, .int .i64 p5] 39]) y (.int .i64 0) (.int .i64 n)) (H) (fun w0 H _ => ⟨_, _, _, HM.out, HV0.out, H⟩) ?_
      clear H; intro w2 h0 H hz0
      try clear C
      try simp only [World.size_alloc, List.nil_append, List.cons_append, List.append_assoc] at H hz0
      clear hz0
      try clear w1
      have C := H.cells
      try simp only [cellsOf, cellsM, apartOf, apartM, and_true] at C
      repeat (first | (refine wpX_skip rfl ?_; go_simp) | (refine wpX_free rfl rfl rfl (fun K hK => ?_); go_step; refine hK _ _ ?_; clear hK K))
      refine wpX_yield rfl rfl (v6 p0 p1 p2 p3 p4 p5) (fun w hw => by obtain ⟨es9, ck9, M9, h1, h2, H9⟩ := hw; have C := H9.cells; simp only [cellsOf, cellsM, apartOf, apartM, and_true] at C; go_simp) ?_
      go_simp
      repeat (first | (refine wpX_skip rfl ?_; go_simp) | (refine wpX_free rfl rfl rfl (fun K hK => ?_); go_step; refine hK _ _ ?_; clear hK K))
      refine wpX_eff rfl rfl (fun _ _ => ?_)
      go_step
      refine (HFQ.out _).mono ?_
      rintro _ w3 ⟨rfl, hb⟩
      replace H := H.below hb
      clear hb
      try clear C
      have C := H.cells
      try simp only [cellsOf, cellsM, apartOf, apartM, and_true] at C
      try clear w2
      dsimp only
      go_step
      refine ⟨⟨_, _, _, HM.out, HV0.out, H⟩, ?_⟩
      repeat (first | (refine wpX_skip rfl ?_; go_simp) | (refine wpX_free rfl rfl rfl (fun K hK => ?_); go_step; refine hK _ _ ?_; clear hK K))
      refine wpX_lookup1_G rfl rfl (.tmp 17) (.tmp 20) rfl HTpi keyP HEpi (b := bM) (n := y) (v := .int .i64 n) (fun w hw => by obtain ⟨es9, ck9, M9, h1, h2, H9⟩ := hw; exact ⟨es9, ck9, M9, H9.at 0 rfl, h1, h2⟩) rfl rfl ?_
      go_simp
      repeat (first | (refine wpX_skip rfl ?_; go_simp) | (refine wpX_free rfl rfl rfl (fun K hK => ?_); go_step; refine hK _ _ ?_; clear hK K))
      refine wpX_entry_G rfl rfl (.tmp 17) (.tmp 20) rfl HTpi keyP HEpi H 0 rfl HM.out rfl (n := y) rfl HV0.out (fun w8 es8 ck8 s8 hM8 hE8 H8 => ⟨⟨_, _, _, hM8, getG_putSelf _ _ _ _, H8⟩, ?_⟩)
      go_simp
      repeat (first | (refine wpX_skip rfl ?_; go_simp) | (refine wpX_free rfl rfl rfl (fun K hK => ?_); go_step; refine hK _ _ ?_; clear hK K))
      refine wpX_nil ?_
      refine wpList_estore_G rfl (.tmp 17) (.tmp 24) (.tmp 22) rfl keyP H8 0 rfl hM8 rfl (n := y) hE8 rfl rfl (fun w9 es9 hM9 H9 => ?_)
      simp only [List.set_cons_zero] at H9
      rw [putG_putG] at hM9
      have HM9 := Lib.hid hM9
      clear hM9 hM8 hE8 H8 H C
      have H := H9
      clear H9
      skip
      try clear C
      try simp only [World.size_alloc, List.nil_append, List.cons_append, List.append_assoc] at H
      have C := H.cells
      try simp only [cellsOf, cellsM, apartOf, apartM, and_true] at C
      have hcnt := cntP_take f hlt
      rw [← HQ.out, HFY.out] at hcnt
      have hng : (getG y (putG y (.int .i64 ((n : Int) + 1)) M)).getD (.int .i64 0) = .int .i64 ((n : Int) + 1) := getG_putSelf _ _ _ _
      have HNG := Lib.hid hng
      have HCNT := Lib.hid hcnt
      clear hng hcnt
      skip
      by_cases hm : most < (n : Int) + 1
      · go_wp2_with fail
        refine (HFQ.out _).mono ?_
        rintro _ wb ⟨rfl, hb⟩
        replace H := H.below hb
        clear hb
        skip
        try clear C
        try simp only [World.size_alloc, List.nil_append, List.cons_append, List.append_assoc] at H
        have C := H.cells
        try simp only [cellsOf, cellsM, apartOf, apartM, and_true] at C
        go_wp2_with (at_lookup; refine wpList_lookup1_G rfl (.tmp 25) (.tmp 28) rfl HTpi keyP HEpi H 0 rfl HM9.out rfl (n := y) rfl HNG.out ?_)
        go_ret
        exact ⟨by rw [crowd_at f hlt (by rw [← HQ.out, HFY.out, HCNT.out, ← HN.out, if_pos rfl]; push_cast; exact hm)]; rfl, H.done⟩
      · skip
        go_wp2_with fail
        refine (HFQ.out _).mono ?_
        rintro _ wb ⟨rfl, hb⟩
        replace H := H.below hb
        clear hb
        skip
        try clear C
        try simp only [World.size_alloc, List.nil_append, List.cons_append, List.append_assoc] at H
        have C := H.cells
        try simp only [cellsOf, cellsM, apartOf, apartM, and_true] at C
        go_wp2_with (at_lookup; refine wpList_lookup1_G rfl (.tmp 25) (.tmp 28) rfl HTpi keyP HEpi H 0 rfl HM9.out rfl (n := y) rfl HNG.out ?_)
        go_roundw
        case rel =>
          refine ⟨j + 1, _, _, _, by go_num, by omega, HM9, (show Hid _ from fun x => ?_), (show Hid _ from fun x hx => ?_), H.less (by repeat (first | exact .slnil | refine .cons_cons _ ?_ | refine .cons _ ?_))⟩
          · rw [cntP_take f hlt, ← HQ.out, HFY.out, getG_put]
            by_cases e : x = y
            · subst e; rw [if_pos rfl, if_pos rfl, ← HN.out]; rfl
            · rw [if_neg e, if_neg (Ne.symm e), HV.out x]; rfl
          · rw [cntP_take f hlt, ← HQ.out, HFY.out] at hx ⊢
            by_cases e : y = x
            · subst e; rw [if_pos rfl, ← HN.out]; push_cast; omega
            · rw [if_neg e] at hx ⊢; exact HC.out x hx
        case measure => simp [intOf]; omega
    · go_wp2_with fail
      go_ret
      have hjn : j = rs.length := by omega
      subst hjn
      have h1 := HC.out
      rw [List.take_length] at h1
      exact ⟨by rw [crowd_of f h1]; rfl, H.done⟩
end Go.Proofs.Ytdhnpjgnnfgklaa
