/- Plan (chapter 39): ref.Same. -/
import Derived.Test.YtdhnpjgnnfgklaaPlT
namespace Go.Proofs.Ytdhnpjgnnfgklaa
set_option linter.unusedSimpArgs false
set_option linter.unusedVariables false
open Go.RowKit
set_option maxRecDepth 100000
attribute [local irreducible] wpX wpF Calls
attribute [local go_sem] run_mkMapG

theorem same_lists {α : Type} [Inhabited α] {xs ys : List α} (hl : xs.length = ys.length) (h : ∀ i, i < xs.length → xs[i]! = ys[i]!) : xs = ys := by
  refine List.ext_getElem hl fun i h1 h2 => ?_
  have := h i h1
  rw [getElem!_pos xs i h1, getElem!_pos ys i h2] at this
  exact this
set_option maxHeartbeats 16000000 in
theorem rsame_any {ra rb : List Int} {ka kb : List P6} (xA xB : Int) {sra ska srb skb : Option Addr} (cra cka crb ckb : Nat) (h1 : ra.length ≤ 100000) (h2 : ka.length ≤ 100000) (h3 : rb.length ≤ 100000) (h4 : kb.length ≤ 100000) (w : World)
    (l1 : Lies w w.heap.size sra 1 ra.length (fun j => iC ra[j]!)) (l2 : Lies w w.heap.size ska 6 ka.length (fun j => pC ka[j]!)) (l3 : Lies w w.heap.size srb 1 rb.length (fun j => iC rb[j]!)) (l4 : Lies w w.heap.size skb 6 kb.length (fun j => pC kb[j]!)) :
    Calls Try.prog 15 #[.agg #[.slice sra ra.length cra, .slice ska ka.length cka, .int .i64 xA], .agg #[.slice srb rb.length crb, .slice skb kb.length ckb, .int .i64 xB]] w (Gives (.bool (decide (ra = rb ∧ ka = kb ∧ xA = xB))) w) := by
  have L1 := Lib.hid l1
  have L2 := Lib.hid l2
  have L3 := Lib.hid l3
  have L4 := Lib.hid l4
  clear l1 l2 l3 l4
  go_enter Try.func15, Try.ntmps15
  have H := HS.start NoD w
  go_upto_region 1 with fail
  generalize hwb : (w.alloc _).alloc _ = w1
  replace H := HS.eqW hwb H.alloc.alloc
  try simp only [World.size_alloc, List.nil_append, List.cons_append, List.append_assoc] at H
  clear hwb
  generalize w.heap.size + 1 = bB at H ⊢
  generalize w.heap.size = bA at H ⊢
  try clear C
  have C := H.cells
  try simp only [cellsOf, cellsM, apartOf, apartM, and_true] at C
  skip
  by_cases hs : xA = xB
  · have hsb : (xA == xB) = true := beq_iff_eq.2 hs
    have hsbn : (xA != xB) = false := by unfold bne; rw [hsb]; rfl
    have HSV := Lib.hid hs
    clear hs
    by_cases hr : ra.length = rb.length
    · have hrb : ((ra.length : Int) == (rb.length : Int)) = true := beq_iff_eq.2 (by omega)
      have hrbn : ((ra.length : Int) != (rb.length : Int)) = false := by unfold bne; rw [hrb]; rfl
      have HRL := Lib.hid hr
      clear hr
      by_cases hk : ka.length = kb.length
      · have hkb : ((ka.length : Int) == (kb.length : Int)) = true := beq_iff_eq.2 (by omega)
        have hkbn : ((ka.length : Int) != (kb.length : Int)) = false := by unfold bne; rw [hkb]; rfl
        have HKL := Lib.hid hk
        clear hk
        go_wp2_with fail
        clear hsb hrb hkb hsbn hrbn hkbn
        go_loopw [35] (fun jj wr => ∃ (i : Nat), jj = .int .i64 i ∧ i ≤ ra.length ∧ Hid (∀ m, m < i → ra[m]! = rb[m]!) ∧ HS NoD w [.blk bA #[.slice sra ra.length cra, .slice ska ka.length cka, .int .i64 xA] 35, .blk bB #[.slice srb rb.length crb, .slice skb kb.length ckb, .int .i64 xB] 35] wr) (fun jj _ => ra.length - (intOf jj).toNat)
        case atStart => exact ⟨0, rfl, Nat.zero_le _, (show Hid _ from fun i hi => absurd hi (Nat.not_lt_zero _)), H⟩
        case round =>
          clear H C
          obtain ⟨i, rfl, hi, HI, H⟩ := hrel
          skip
          try clear C
          try simp only [World.size_alloc, List.nil_append, List.cons_append, List.append_assoc] at H
          have C := H.cells
          try simp only [cellsOf, cellsM, apartOf, apartM, and_true] at C
          by_cases hlt : i < ra.length
          · have hii : (i : Int) < ra.length := by omega
            have hltb : i < rb.length := by have := HRL.out; omega
            have hib : (i : Int) < rb.length := by omega
            obtain ⟨b1, o1, rfl, hb1, hc1⟩ := (H.lies L1.out).at hlt
            obtain ⟨b3, o3, rfl, hb3, hc3⟩ := (H.lies L3.out).at hltb
            obtain ⟨g, hg⟩ : ∃ g, g = ra[i]! := ⟨_, rfl⟩
            obtain ⟨g', hg'⟩ : ∃ g, g = rb[i]! := ⟨_, rfl⟩
            rw [← hg] at hc1
            rw [← hg'] at hc3
            have HG := Lib.hid hg
            have HG' := Lib.hid hg'
            have c1 : wr.cell? ⟨b1, o1 + i * 1, none⟩ = some (.int .i64 g) := hc1 0 _ rfl
            rw [show o1 + i * 1 = o1 + i by omega] at c1
            have c3 : wr.cell? ⟨b3, o3 + i * 1, none⟩ = some (.int .i64 g') := hc3 0 _ rfl
            rw [show o3 + i * 1 = o3 + i by omega] at c3
            clear hc1 hc3 hg hg' hb1 hb3
            skip
            by_cases he : g' = g
            · have hgb : (g' == g) = true := beq_iff_eq.2 he
              have hgbn : (g' != g) = false := by unfold bne; rw [hgb]; rfl
              have HE := Lib.hid he
              clear he
              go_wp2_with fail
              go_roundw
              case rel =>
                refine ⟨i + 1, by go_num, by omega, (show Hid _ from fun m hm => ?_), H.less (by repeat (first | exact .slnil | refine .cons_cons _ ?_ | refine .cons _ ?_))⟩
                by_cases e : m = i
                · subst e; rw [← HG.out, ← HG'.out, HE.out]
                · exact HI.out m (by omega)
              case measure => simp [intOf]; omega
            · have hgb : (g' == g) = false := beq_eq_false_iff_ne.2 he
              have hgbn : (g' != g) = true := by unfold bne; rw [hgb]; rfl
              have HE := Lib.hid he
              clear he
              skip
              go_wp2_with fail
              go_ret
              refine ⟨?_, H.done⟩
              rw [decide_eq_false (fun h : ra = rb ∧ ka = kb ∧ xA = xB => HE.out (by rw [HG.out, HG'.out, h.1]))]
              rfl
          · have hin : i = ra.length := by omega
            subst hin
            skip
            go_wp2_with fail
            go_loopw [51] (fun jj wr => ∃ (i : Nat), jj = .int .i64 i ∧ i ≤ ka.length ∧ Hid (∀ m, m < i → ka[m]! = kb[m]!) ∧ HS NoD w [.blk bA #[.slice sra ra.length cra, .slice ska ka.length cka, .int .i64 xA] 35, .blk bB #[.slice srb rb.length crb, .slice skb kb.length ckb, .int .i64 xB] 35] wr) (fun jj _ => ka.length - (intOf jj).toNat)
            case atStart => exact ⟨0, rfl, Nat.zero_le _, (show Hid _ from fun i hi => absurd hi (Nat.not_lt_zero _)), H⟩
            case round =>
              clear H C
              obtain ⟨i, rfl, hi, HJ, H⟩ := hrel
              skip
              try clear C
              try simp only [World.size_alloc, List.nil_append, List.cons_append, List.append_assoc] at H
              have C := H.cells
              try simp only [cellsOf, cellsM, apartOf, apartM, and_true] at C
              by_cases hlt : i < ka.length
              · have hii : (i : Int) < ka.length := by omega
                have hltb : i < kb.length := by have := HKL.out; omega
                have hib : (i : Int) < kb.length := by omega
                obtain ⟨b, o, rfl, hb, hc⟩ := (H.lies L2.out).at hlt
                obtain ⟨q, hq⟩ : ∃ q, q = ka[i]! := ⟨_, rfl⟩
                rw [← hq] at hc
                have HQ := Lib.hid hq
                clear hq
                obtain ⟨p0, p1, p2, p3, p4, p5⟩ := q
                have c0 : wr.cell? ⟨b, o + i * 6, none⟩ = some (.int .i64 p0) := hc 0 _ rfl
                have c1 : wr.cell? ⟨b, o + i * 6 + 1, none⟩ = some (.int .i64 p1) := hc 1 _ rfl
                have c2 : wr.cell? ⟨b, o + i * 6 + 2, none⟩ = some (.int .i64 p2) := hc 2 _ rfl
                have c3 : wr.cell? ⟨b, o + i * 6 + 3, none⟩ = some (.int .i64 p3) := hc 3 _ rfl
                have c4 : wr.cell? ⟨b, o + i * 6 + 4, none⟩ = some (.int .i64 p4) := hc 4 _ rfl
                have c5 : wr.cell? ⟨b, o + i * 6 + 5, none⟩ = some (.int .i64 p5) := hc 5 _ rfl
                clear hc hb
                obtain ⟨b2, o2, rfl, hb2, hc2⟩ := (H.lies L4.out).at hltb
                obtain ⟨q2, hq2⟩ : ∃ q, q = kb[i]! := ⟨_, rfl⟩
                rw [← hq2] at hc2
                have HQ2 := Lib.hid hq2
                clear hq2
                obtain ⟨q0, q1, q2, q3, q4, q5⟩ := q2
                have d0 : wr.cell? ⟨b2, o2 + i * 6, none⟩ = some (.int .i64 q0) := hc2 0 _ rfl
                have d1 : wr.cell? ⟨b2, o2 + i * 6 + 1, none⟩ = some (.int .i64 q1) := hc2 1 _ rfl
                have d2 : wr.cell? ⟨b2, o2 + i * 6 + 2, none⟩ = some (.int .i64 q2) := hc2 2 _ rfl
                have d3 : wr.cell? ⟨b2, o2 + i * 6 + 3, none⟩ = some (.int .i64 q3) := hc2 3 _ rfl
                have d4 : wr.cell? ⟨b2, o2 + i * 6 + 4, none⟩ = some (.int .i64 q4) := hc2 4 _ rfl
                have d5 : wr.cell? ⟨b2, o2 + i * 6 + 5, none⟩ = some (.int .i64 q5) := hc2 5 _ rfl
                clear hc2 hb2
                clear d0 d1 d2 d3 d4 d5
                have heq := neqP6 q0 q1 q2 q3 q4 q5 p0 p1 p2 p3 p4 p5
                rw [← show decide ((⟨q0, q1, q2, q3, q4, q5⟩ : P6) = ⟨p0, p1, p2, p3, p4, p5⟩) = decide (q0 = p0 ∧ q1 = p1 ∧ q2 = p2 ∧ q3 = p3 ∧ q4 = p4 ∧ q5 = p5) by simp only [P6.mk.injEq]] at heq
                go_upto_region 12 with fail
                clear c0 c1 c2 c3 c4 c5
                generalize hwb : wr.alloc _ = w2
                replace H := HS.eqW hwb H.alloc
                try simp only [World.size_alloc, List.nil_append, List.cons_append, List.append_assoc] at H
                clear hwb
                generalize wr.heap.size = bM at H ⊢
                try clear C
                try clear wr
                have C := H.cells
                try simp only [cellsOf, cellsM, apartOf, apartM, and_true] at C
                skip
                by_cases he : (⟨q0, q1, q2, q3, q4, q5⟩ : P6) = ⟨p0, p1, p2, p3, p4, p5⟩
                · rw [decide_eq_true he] at heq
                  have HE := Lib.hid he
                  clear he
                  refine wp_region_xH (by kernel_rfl) (by kernel_rfl) (by kernel_rfl) (by kernel_rfl) (fun _ => False) (H) ?_
                  clear H; intro w3 H hz0 hs0
                  try clear C
                  try simp only [World.size_alloc, List.nil_append, List.cons_append, List.append_assoc] at H hz0
                  clear hz0
                  try clear w2
                  have C := H.cells
                  try simp only [cellsOf, cellsM, apartOf, apartM, and_true] at C
                  have Z := H.zs
                  try simp only [ltsOf, ltsM, and_true] at Z
                  have hz0 := Nat.le_refl w3.heap.size
                  obtain ⟨b9, o9, e9, hb9, hc9⟩ := (H.lies L4.out).at hltb
                  cases e9
                  rw [← HQ2.out] at hc9
                  have d0 : w3.cell? ⟨b2, o2 + i * 6, none⟩ = some (.int .i64 q0) := hc9 0 _ rfl
                  have d1 : w3.cell? ⟨b2, o2 + i * 6 + 1, none⟩ = some (.int .i64 q1) := hc9 1 _ rfl
                  have d2 : w3.cell? ⟨b2, o2 + i * 6 + 2, none⟩ = some (.int .i64 q2) := hc9 2 _ rfl
                  have d3 : w3.cell? ⟨b2, o2 + i * 6 + 3, none⟩ = some (.int .i64 q3) := hc9 3 _ rfl
                  have d4 : w3.cell? ⟨b2, o2 + i * 6 + 4, none⟩ = some (.int .i64 q4) := hc9 4 _ rfl
                  have d5 : w3.cell? ⟨b2, o2 + i * 6 + 5, none⟩ = some (.int .i64 q5) := hc9 5 _ rfl
                  have hz9 : b2 < w3.heap.size := by first | exact hb9 | exact Nat.lt_of_lt_of_le hb9 H.size
                  clear hc9
                  repeat (first | (refine wpX_skip rfl ?_; go_simp) | (refine wpX_free rfl rfl rfl (fun K hK => ?_); go_step; refine hK _ _ ?_; clear hK K) | (refine wpX_load rfl rfl rfl (by simp [Stay, OneD, NoD, *]) hs0 (by simp [*]) (fun K hK => ?_); go_step; refine hK _ _ ?_; clear hK K))
                  (refine wpX_yield rfl rfl ((.bool false)) (fun w hw => by go_simp) ?_; go_simp)
                  repeat (first | (refine wpX_skip rfl ?_; go_simp) | (refine wpX_free rfl rfl rfl (fun K hK => ?_); go_step; refine hK _ _ ?_; clear hK K) | (refine wpX_load rfl rfl rfl (by simp [Stay, OneD, NoD, *]) hs0 (by simp [*]) (fun K hK => ?_); go_step; refine hK _ _ ?_; clear hK K))
                  (refine wpX_nil ?_; go_step)
                  go_wp2_with fail
                  go_roundw
                  case rel =>
                    refine ⟨i + 1, by go_num, by omega, (show Hid _ from fun m hm => ?_), H.less (by repeat (first | exact .slnil | refine .cons_cons _ ?_ | refine .cons _ ?_))⟩
                    by_cases e : m = i
                    · subst e; rw [← HQ.out, ← HQ2.out, HE.out]
                    · exact HJ.out m (by omega)
                  case measure => simp [intOf]; omega
                · rw [decide_eq_false he] at heq
                  have HE := Lib.hid he
                  clear he
                  skip
                  refine wp_region_xH (by kernel_rfl) (by kernel_rfl) (by kernel_rfl) (by kernel_rfl) (fun _ => False) (H) ?_
                  clear H; intro w4 H hz0 hs0
                  try clear C
                  try simp only [World.size_alloc, List.nil_append, List.cons_append, List.append_assoc] at H hz0
                  clear hz0
                  try clear w2
                  have C := H.cells
                  try simp only [cellsOf, cellsM, apartOf, apartM, and_true] at C
                  have Z := H.zs
                  try simp only [ltsOf, ltsM, and_true] at Z
                  have hz0 := Nat.le_refl w4.heap.size
                  obtain ⟨b9, o9, e9, hb9, hc9⟩ := (H.lies L4.out).at hltb
                  cases e9
                  rw [← HQ2.out] at hc9
                  have d0 : w4.cell? ⟨b2, o2 + i * 6, none⟩ = some (.int .i64 q0) := hc9 0 _ rfl
                  have d1 : w4.cell? ⟨b2, o2 + i * 6 + 1, none⟩ = some (.int .i64 q1) := hc9 1 _ rfl
                  have d2 : w4.cell? ⟨b2, o2 + i * 6 + 2, none⟩ = some (.int .i64 q2) := hc9 2 _ rfl
                  have d3 : w4.cell? ⟨b2, o2 + i * 6 + 3, none⟩ = some (.int .i64 q3) := hc9 3 _ rfl
                  have d4 : w4.cell? ⟨b2, o2 + i * 6 + 4, none⟩ = some (.int .i64 q4) := hc9 4 _ rfl
                  have d5 : w4.cell? ⟨b2, o2 + i * 6 + 5, none⟩ = some (.int .i64 q5) := hc9 5 _ rfl
                  have hz9 : b2 < w4.heap.size := by first | exact hb9 | exact Nat.lt_of_lt_of_le hb9 H.size
                  clear hc9
                  repeat (first | (refine wpX_skip rfl ?_; go_simp) | (refine wpX_free rfl rfl rfl (fun K hK => ?_); go_step; refine hK _ _ ?_; clear hK K) | (refine wpX_load rfl rfl rfl (by simp [Stay, OneD, NoD, *]) hs0 (by simp [*]) (fun K hK => ?_); go_step; refine hK _ _ ?_; clear hK K))
                  (refine wpX_yield rfl rfl ((.bool true)) (fun w hw => by go_simp) ?_; go_simp)
                  repeat (first | (refine wpX_skip rfl ?_; go_simp) | (refine wpX_free rfl rfl rfl (fun K hK => ?_); go_step; refine hK _ _ ?_; clear hK K) | (refine wpX_load rfl rfl rfl (by simp [Stay, OneD, NoD, *]) hs0 (by simp [*]) (fun K hK => ?_); go_step; refine hK _ _ ?_; clear hK K))
                  (refine wpX_nil ?_; go_step)
                  go_wp2_with fail
                  go_ret
                  refine ⟨?_, H.done⟩
                  rw [decide_eq_false (fun h : ra = rb ∧ ka = kb ∧ xA = xB => HE.out (by rw [HQ2.out, HQ.out, h.2.1]))]
                  rfl
              · have hin : i = ka.length := by omega
                subst hin
                skip
                go_wp2_with fail
                go_ret
                refine ⟨?_, H.done⟩
                rw [decide_eq_true (show ra = rb ∧ ka = kb ∧ xA = xB from ⟨same_lists HRL.out HI.out, same_lists HKL.out HJ.out, HSV.out⟩)]
                rfl
      · have hkb : ((ka.length : Int) == (kb.length : Int)) = false := beq_eq_false_iff_ne.2 (by omega)
        have hkbn : ((ka.length : Int) != (kb.length : Int)) = true := by unfold bne; rw [hkb]; rfl
        have HKL := Lib.hid hk
        clear hk
        skip
        go_wp2_with fail
        go_ret
        refine ⟨?_, H.done⟩
        rw [decide_eq_false (fun h : ra = rb ∧ ka = kb ∧ xA = xB => HKL.out (by rw [h.2.1]))]
        rfl
    · have hrb : ((ra.length : Int) == (rb.length : Int)) = false := beq_eq_false_iff_ne.2 (by omega)
      have HRL := Lib.hid hr
      clear hr
      skip
      go_wp2_with fail
      go_ret
      refine ⟨?_, H.done⟩
      rw [decide_eq_false (fun h : ra = rb ∧ ka = kb ∧ xA = xB => HRL.out (by rw [h.1]))]
      rfl
  · have hsb : (xA == xB) = false := beq_eq_false_iff_ne.2 hs
    have HSV := Lib.hid hs
    clear hs
    skip
    go_wp2_with fail
    go_ret
    refine ⟨?_, H.done⟩
    rw [decide_eq_false (fun h : ra = rb ∧ ka = kb ∧ xA = xB => HSV.out h.2.2)]
    rfl
end Go.Proofs.Ytdhnpjgnnfgklaa
