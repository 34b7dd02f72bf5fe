/- Plan (chapter 39): which needs are valid (the specification, on anything). -/
import Derived.Test.YtdhnpjgnnfgklaaPlI
namespace Go.Proofs.Ytdhnpjgnnfgklaa
set_option linter.unusedSimpArgs false
set_option linter.unusedVariables false
open Go.RowKit
set_option maxRecDepth 100000
attribute [local irreducible] wpX wpF Calls
attribute [local go_sem] run_mkMapG

set_option maxHeartbeats 16000000 in
theorem rvalidN_any (a0 a1 a2 a3 a4 a5 : Int) {sa : Option Addr} (c : Nat) {l : List Nd} (hx : l.length ≤ 100000) (hcap : l.length ≤ c) (w : World) (hl : Lies w w.heap.size sa 7 l.length (fun j => ndC l[j]!)) :
    Calls Try.prog 19 #[v6 a0 a1 a2 a3 a4 a5, .slice sa l.length c] w (Gives (.bool (decide (validN ⟨a0, a1, a2, a3, a4, a5⟩ l))) w) := by
  have HL := Lib.hid hl
  clear hl
  go_enter Try.func19, Try.ntmps19
  have H := HS.start NoD w
  go_upto_region 1 with fail
  generalize hwb : w.alloc _ = w1
  replace H := HS.eqW hwb H.alloc
  try simp only [World.size_alloc, List.nil_append, List.cons_append, List.append_assoc] at H
  clear hwb
  generalize w.heap.size = bS at H ⊢
  try clear C
  have C := H.cells
  try simp only [cellsOf, cellsM, apartOf, apartM, and_true] at C
  skip
  by_cases hsv : SV a0 a1 a2 a3 a4 a5
  · have HSV := Lib.hid hsv
    have hsd := decide_eq_true hsv
    clear hsv
    go_wp2_with fail
    refine (rvalid_any _ _ _ _ _ _ _).mono ?_
    rintro _ w5 ⟨rfl, hb⟩
    replace H := H.below hb
    clear hb
    skip
    try clear C
    try simp only [World.size_alloc, List.nil_append, List.cons_append, List.append_assoc] at H
    have C := H.cells
    try simp only [cellsOf, cellsM, apartOf, apartM, and_true] at C
    rw [hsd]
    clear hsd
    go_wp2_with fail
    go_loopw [14] (fun j wr => ∃ (k : Nat), j = .int .i64 k ∧ k ≤ l.length ∧ Hid (∀ i, i < k → goodN ⟨a0, a1, a2, a3, a4, a5⟩ l i) ∧ HS NoD w [.blk bS #[.int .i64 a0, .int .i64 a1, .int .i64 a2, .int .i64 a3, .int .i64 a4, .int .i64 a5] 28] wr) (fun j _ => l.length - (intOf j).toNat)
    case atStart => exact ⟨0, rfl, Nat.zero_le _, (show Hid _ from fun i hi => absurd hi (Nat.not_lt_zero _)), H⟩
    case round =>
      clear H C
      obtain ⟨k, rfl, hk, HA, H⟩ := hrel
      skip
      try clear C
      try simp only [World.size_alloc, List.nil_append, List.cons_append, List.append_assoc] at H
      have C := H.cells
      try simp only [cellsOf, cellsM, apartOf, apartM, and_true] at C
      by_cases hlt : k < l.length
      · have hki : (k : Int) < l.length := by omega
        have hkc : (k : Int) ≤ c := by omega
        obtain ⟨b, o, rfl, hb, hc⟩ := (H.lies HL.out).at hlt
        obtain ⟨q, hq⟩ : ∃ q, q = l[k]! := ⟨_, rfl⟩
        rw [← hq] at hc
        have HQ := Lib.hid hq
        clear hq
        obtain ⟨⟨p0, p1, p2, p3, p4, p5⟩, pl⟩ := q
        have c0 : wr.cell? ⟨b, o + k * 7, none⟩ = some (.int .i64 p0) := hc 0 _ rfl
        have c1 : wr.cell? ⟨b, o + k * 7 + 1, none⟩ = some (.int .i64 p1) := hc 1 _ rfl
        have c2 : wr.cell? ⟨b, o + k * 7 + 2, none⟩ = some (.int .i64 p2) := hc 2 _ rfl
        have c3 : wr.cell? ⟨b, o + k * 7 + 3, none⟩ = some (.int .i64 p3) := hc 3 _ rfl
        have c4 : wr.cell? ⟨b, o + k * 7 + 4, none⟩ = some (.int .i64 p4) := hc 4 _ rfl
        have c5 : wr.cell? ⟨b, o + k * 7 + 5, none⟩ = some (.int .i64 p5) := hc 5 _ rfl
        have c6 : wr.cell? ⟨b, o + k * 7 + 6, none⟩ = some (.int .i64 pl) := hc 6 _ rfl
        clear hc hb
        go_upto_region 6 with fail
        clear c0 c1 c2 c3 c4 c5 c6
        generalize hwb : wr.alloc _ = w2
        replace H := HS.eqW hwb H.alloc
        try simp only [World.size_alloc, List.nil_append, List.cons_append, List.append_assoc] at H
        clear hwb
        generalize wr.heap.size = bN at H ⊢
        try clear C
        try clear wr
        have C := H.cells
        try simp only [cellsOf, cellsM, apartOf, apartM, and_true] at C
        skip
        by_cases hv : SV a0 a1 a2 a3 a4 a5 ∧ PV a0 a1 a2 a3 a4 a5 p0 p1 p2 p3 p4 p5
        · have hvd := decide_eq_true hv
          have HVV := Lib.hid hv
          clear hv
          by_cases hf : p5 = 0
          · subst hf
            by_cases hn : 0 ≤ pl
            · by_cases hm : pl ≤ 1099511627776
              · skip
                go_wp2_with fail
                refine (rvalidPlace_all _ _ _ _ _ _ _ _ _ _ _ _ _).mono ?_
                rintro _ wb ⟨rfl, hb⟩
                replace H := H.below hb
                clear hb
                skip
                try clear C
                try simp only [World.size_alloc, List.nil_append, List.cons_append, List.append_assoc] at H
                have C := H.cells
                try simp only [cellsOf, cellsM, apartOf, apartM, and_true] at C
                have HIF := Lib.hid (show PV a0 a1 a2 a3 a4 a5 p0 p1 p2 p3 p4 0 from HVV.out.2)
                have HNM := Lib.hid (show 0 ≤ pl ∧ pl ≤ 1099511627776 from ⟨hn, hm⟩)
                rw [hvd]
                go_wp2_with fail
                clear hvd hn hm
                go_loopw [44] (fun jj wr => ∃ (i : Nat), jj = .int .i64 i ∧ i ≤ k ∧ Hid (∀ m, m < i → l[m]!.p ≠ ⟨p0, p1, p2, p3, p4, 0⟩) ∧ HS NoD w [.blk bS #[.int .i64 a0, .int .i64 a1, .int .i64 a2, .int .i64 a3, .int .i64 a4, .int .i64 a5] 28, .blk bN #[.int .i64 p0, .int .i64 p1, .int .i64 p2, .int .i64 p3, .int .i64 p4, .int .i64 0, .int .i64 pl] 41] wr) (fun jj _ => k - (intOf jj).toNat)
                case atStart => exact ⟨0, rfl, Nat.zero_le _, (show Hid _ from fun i hi => absurd hi (Nat.not_lt_zero _)), H⟩
                case round =>
                  clear H C
                  obtain ⟨i, rfl, hi, HI, H⟩ := hrel
                  skip
                  try clear C
                  try simp only [World.size_alloc, List.nil_append, List.cons_append, List.append_assoc] at H
                  have C := H.cells
                  try simp only [cellsOf, cellsM, apartOf, apartM, and_true] at C
                  by_cases hlt2 : i < k
                  · have hii : (i : Int) < k := by omega
                    have hil : i < l.length := by omega
                    obtain ⟨b2, o2, e0, hb2, hc2⟩ := (H.lies HL.out).at hil
                    cases e0
                    obtain ⟨q2, hq2⟩ : ∃ q, q = l[i]! := ⟨_, rfl⟩
                    rw [← hq2] at hc2
                    have HQ2 := Lib.hid hq2
                    clear hq2
                    obtain ⟨⟨q0, q1, q2, q3, q4, q5⟩, ql⟩ := q2
                    have d0 : wr.cell? ⟨b, o + i * 7, none⟩ = some (.int .i64 q0) := hc2 0 _ rfl
                    have d1 : wr.cell? ⟨b, o + i * 7 + 1, none⟩ = some (.int .i64 q1) := hc2 1 _ rfl
                    have d2 : wr.cell? ⟨b, o + i * 7 + 2, none⟩ = some (.int .i64 q2) := hc2 2 _ rfl
                    have d3 : wr.cell? ⟨b, o + i * 7 + 3, none⟩ = some (.int .i64 q3) := hc2 3 _ rfl
                    have d4 : wr.cell? ⟨b, o + i * 7 + 4, none⟩ = some (.int .i64 q4) := hc2 4 _ rfl
                    have d5 : wr.cell? ⟨b, o + i * 7 + 5, none⟩ = some (.int .i64 q5) := hc2 5 _ rfl
                    have d6 : wr.cell? ⟨b, o + i * 7 + 6, none⟩ = some (.int .i64 ql) := hc2 6 _ rfl
                    clear hc2 hb2
                    have heq := eqlP6 q0 q1 q2 q3 q4 q5 p0 p1 p2 p3 p4 0
                    rw [← show decide ((⟨q0, q1, q2, q3, q4, q5⟩ : P6) = ⟨p0, p1, p2, p3, p4, 0⟩) = decide (q0 = p0 ∧ q1 = p1 ∧ q2 = p2 ∧ q3 = p3 ∧ q4 = p4 ∧ q5 = 0) by simp only [P6.mk.injEq]] at heq
                    go_upto_region 11 with fail
                    clear d0 d1 d2 d3 d4 d5 d6
                    generalize hwb : wr.alloc _ = w3
                    replace H := HS.eqW hwb H.alloc
                    try simp only [World.size_alloc, List.nil_append, List.cons_append, List.append_assoc] at H
                    clear hwb
                    generalize wr.heap.size = bM at H ⊢
                    try clear C
                    try clear wr
                    have C := H.cells
                    try simp only [cellsOf, cellsM, apartOf, apartM, and_true] at C
                    skip
                    by_cases he : (⟨q0, q1, q2, q3, q4, q5⟩ : P6) = ⟨p0, p1, p2, p3, p4, 0⟩
                    · rw [decide_eq_true he] at heq
                      have HE := Lib.hid he
                      clear he
                      go_wp2_with fail
                      go_ret
                      refine ⟨?_, H.done⟩
                      rw [decide_eq_false (fun h : validN ⟨a0, a1, a2, a3, a4, a5⟩ l => (by have hg := h.2.2 k hlt; unfold goodN at hg; rw [← HQ.out] at hg; exact hg.2.2.2.2 _ (takeN_mem hlt2 hil) (by rw [← HQ2.out]; exact HE.out)))]
                      rfl
                    · rw [decide_eq_false he] at heq
                      have HE := Lib.hid he
                      clear he
                      skip
                      go_wp2_with fail
                      go_roundw
                      case rel =>
                        refine ⟨i + 1, by go_num, by omega, (show Hid _ from fun m hm => ?_), H.less (by repeat (first | exact .slnil | refine .cons_cons _ ?_ | refine .cons _ ?_))⟩
                        by_cases e : m = i
                        · subst e; rw [← HQ2.out]; exact HE.out
                        · exact HI.out m (by omega)
                      case measure => simp [intOf]; omega
                  · have hik : i = k := by omega
                    subst hik
                    skip
                    go_wp2_with fail
                    go_roundw
                    case rel =>
                      refine ⟨i + 1, by go_num, by omega, (show Hid _ from fun m hm => ?_), H.less (by repeat (first | exact .slnil | refine .cons_cons _ ?_ | refine .cons _ ?_))⟩
                      by_cases e : m = i
                      · subst e; unfold goodN; rw [← HQ.out]
                        exact ⟨HIF.out, rfl, HNM.out.1, HNM.out.2, fun x hx => by obtain ⟨n, hn, hl, e⟩ := mem_takeN hx; rw [← e]; exact HI.out n hn⟩
                      · exact HA.out m (by omega)
                    case measure => simp [intOf]; omega
              · skip
                go_wp2_with fail
                refine (rvalidPlace_all _ _ _ _ _ _ _ _ _ _ _ _ _).mono ?_
                rintro _ wb ⟨rfl, hb⟩
                replace H := H.below hb
                clear hb
                skip
                try clear C
                try simp only [World.size_alloc, List.nil_append, List.cons_append, List.append_assoc] at H
                have C := H.cells
                try simp only [cellsOf, cellsM, apartOf, apartM, and_true] at C
                rw [hvd]
                go_wp2_with fail
                go_ret
                refine ⟨?_, H.done⟩
                rw [decide_eq_false (fun h : validN ⟨a0, a1, a2, a3, a4, a5⟩ l => (by have hg := h.2.2 k hlt; unfold goodN at hg; rw [← HQ.out] at hg; have := hg.2.2.2.1; dsimp only at this; omega))]
                rfl
            · skip
              go_wp2_with fail
              refine (rvalidPlace_all _ _ _ _ _ _ _ _ _ _ _ _ _).mono ?_
              rintro _ wb ⟨rfl, hb⟩
              replace H := H.below hb
              clear hb
              skip
              try clear C
              try simp only [World.size_alloc, List.nil_append, List.cons_append, List.append_assoc] at H
              have C := H.cells
              try simp only [cellsOf, cellsM, apartOf, apartM, and_true] at C
              rw [hvd]
              go_wp2_with fail
              go_ret
              refine ⟨?_, H.done⟩
              rw [decide_eq_false (fun h : validN ⟨a0, a1, a2, a3, a4, a5⟩ l => (by have hg := h.2.2 k hlt; unfold goodN at hg; rw [← HQ.out] at hg; have := hg.2.2.1; dsimp only at this; omega))]
              rfl
          · have hfb : (p5 == 0) = false := beq_eq_false_iff_ne.2 hf
            skip
            go_wp2_with fail
            refine (rvalidPlace_all _ _ _ _ _ _ _ _ _ _ _ _ _).mono ?_
            rintro _ wb ⟨rfl, hb⟩
            replace H := H.below hb
            clear hb
            skip
            try clear C
            try simp only [World.size_alloc, List.nil_append, List.cons_append, List.append_assoc] at H
            have C := H.cells
            try simp only [cellsOf, cellsM, apartOf, apartM, and_true] at C
            rw [hvd]
            go_wp2_with fail
            go_ret
            refine ⟨?_, H.done⟩
            rw [decide_eq_false (fun h : validN ⟨a0, a1, a2, a3, a4, a5⟩ l => (by have hg := h.2.2 k hlt; unfold goodN at hg; rw [← HQ.out] at hg; exact absurd hg.2.1 hf))]
            rfl
        · have hvd := decide_eq_false hv
          skip
          go_wp2_with fail
          refine (rvalidPlace_all _ _ _ _ _ _ _ _ _ _ _ _ _).mono ?_
          rintro _ wb ⟨rfl, hb⟩
          replace H := H.below hb
          clear hb
          skip
          try clear C
          try simp only [World.size_alloc, List.nil_append, List.cons_append, List.append_assoc] at H
          have C := H.cells
          try simp only [cellsOf, cellsM, apartOf, apartM, and_true] at C
          rw [hvd]
          go_wp2_with fail
          go_ret
          refine ⟨?_, H.done⟩
          rw [decide_eq_false (fun h : validN ⟨a0, a1, a2, a3, a4, a5⟩ l => hv ⟨h.1, (by have hg := h.2.2 k hlt; unfold goodN at hg; rw [← HQ.out] at hg; exact hg.1)⟩)]
          rfl
      · have hkl : k = l.length := by omega
        subst hkl
        skip
        by_cases h12 : l.length ≤ 12
        · have h12i : (l.length : Int) ≤ 12 := by omega
          have h12d : decide ((l.length : Int) ≤ 12) = true := decide_eq_true h12i
          go_wp2_with fail
          go_ret
          refine ⟨?_, H.done⟩
          rw [decide_eq_true (show validN ⟨a0, a1, a2, a3, a4, a5⟩ l from ⟨HSV.out, h12, HA.out⟩)]
          rfl
        · have h12i : ¬ (l.length : Int) ≤ 12 := by omega
          have h12d : decide ((l.length : Int) ≤ 12) = false := decide_eq_false h12i
          go_wp2_with fail
          go_ret
          refine ⟨?_, H.done⟩
          rw [decide_eq_false (fun h : validN ⟨a0, a1, a2, a3, a4, a5⟩ l => h12 h.2.1)]
          first | rfl | (simp; omega)
  · have hsd := decide_eq_false hsv
    skip
    go_wp2_with fail
    refine (rvalid_any _ _ _ _ _ _ _).mono ?_
    rintro _ w5 ⟨rfl, hb⟩
    replace H := H.below hb
    clear hb
    skip
    try clear C
    try simp only [World.size_alloc, List.nil_append, List.cons_append, List.append_assoc] at H
    have C := H.cells
    try simp only [cellsOf, cellsM, apartOf, apartM, and_true] at C
    rw [hsd]
    go_wp2_with fail
    go_ret
    refine ⟨?_, H.done⟩
    rw [decide_eq_false (fun h : validN ⟨a0, a1, a2, a3, a4, a5⟩ l => hsv h.1)]
    rfl
end Go.Proofs.Ytdhnpjgnnfgklaa
