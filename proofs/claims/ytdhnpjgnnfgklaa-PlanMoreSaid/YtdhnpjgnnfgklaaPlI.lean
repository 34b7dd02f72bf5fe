/- Plan (chapter 39): which needs are valid (both packages, on anything). -/
import Derived.Test.YtdhnpjgnnfgklaaPlH
namespace Go.Proofs.Ytdhnpjgnnfgklaa
set_option linter.unusedSimpArgs false
set_option linter.unusedVariables false
open Go.RowKit
set_option maxRecDepth 100000
attribute [local irreducible] wpX wpF Calls
attribute [local go_sem] run_mkMapG

def goodN (s : P6) (l : List Nd) (i : Nat) : Prop := PV s.a s.b s.c s.d s.e s.f l[i]!.p.a l[i]!.p.b l[i]!.p.c l[i]!.p.d l[i]!.p.e l[i]!.p.f ∧ l[i]!.p.f = 0 ∧ 0 ≤ l[i]!.loss ∧ l[i]!.loss ≤ 1099511627776 ∧ ∀ x ∈ l.take i, x.p ≠ l[i]!.p
def validN (s : P6) (l : List Nd) : Prop := SV s.a s.b s.c s.d s.e s.f ∧ l.length ≤ 12 ∧ ∀ i, i < l.length → goodN s l i
noncomputable instance decValidN (s : P6) (l : List Nd) : Decidable (validN s l) := Classical.propDecidable _
theorem take_any {l : List Nd} {k : Nat} {p : P6} : ((l.take k).any fun x => decide (x.p = p)) = true ↔ ¬ ∀ x ∈ l.take k, x.p ≠ p := by
  rw [List.any_eq_true]
  constructor
  · rintro ⟨x, h1, h2⟩ h; exact h x h1 (of_decide_eq_true h2)
  · intro h
    refine Decidable.byContradiction fun hn => h fun x hx e => hn ⟨x, hx, decide_eq_true e⟩
theorem mem_takeN {l : List Nd} {k : Nat} {x : Nd} (h : x ∈ l.take k) : ∃ i, i < k ∧ i < l.length ∧ l[i]! = x := by
  obtain ⟨i, hi, e⟩ := List.getElem_of_mem h
  rw [List.length_take] at hi
  exact ⟨i, by omega, by omega, by rw [getElem!_pos l i (by omega), ← e, List.getElem_take]⟩
theorem takeN_mem {l : List Nd} {k i : Nat} (hi : i < k) (hl : i < l.length) : l[i]! ∈ l.take k := by
  rw [getElem!_pos l i hl]
  have : i < (l.take k).length := by rw [List.length_take]; omega
  have h2 : (l.take k)[i] = l[i] := List.getElem_take
  rw [← h2]; exact List.getElem_mem _
set_option maxHeartbeats 4000000 in
theorem pvalid1_any (x : Nd) (bN : Nat) (p0 p1 p2 p3 p4 p5 pl : Int) (w : World) (hb : Blk w bN #[.int .i64 p0, .int .i64 p1, .int .i64 p2, .int .i64 p3, .int .i64 p4, .int .i64 p5, .int .i64 pl] 41) :
    Calls Try.prog 42 #[.agg (ndC x).toArray, .pointer (some ⟨bN, 0, none⟩)] w (Gives (.bool (decide (x.p = ⟨p0, p1, p2, p3, p4, p5⟩))) w) := by
  obtain ⟨⟨q0, q1, q2, q3, q4, q5⟩, ql⟩ := x
  have heq := eqlP6 q0 q1 q2 q3 q4 q5 p0 p1 p2 p3 p4 p5
  rw [show decide ((⟨q0, q1, q2, q3, q4, q5⟩ : P6) = ⟨p0, p1, p2, p3, p4, p5⟩) = decide (q0 = p0 ∧ q1 = p1 ∧ q2 = p2 ∧ q3 = p3 ∧ q4 = p4 ∧ q5 = p5) by simp only [P6.mk.injEq]]
  generalize decide (q0 = p0 ∧ q1 = p1 ∧ q2 = p2 ∧ q3 = p3 ∧ q4 = p4 ∧ q5 = p5) = t at heq ⊢
  show Calls Try.prog 42 #[.agg #[.int .i64 q0, .int .i64 q1, .int .i64 q2, .int .i64 q3, .int .i64 q4, .int .i64 q5, .int .i64 ql], .pointer (some ⟨bN, 0, none⟩)] w _
  have HB := Lib.hid hb
  go_enter Try.func42, Try.ntmps42
  have H := HS.start NoD w
  go_upto_region 1 with fail
  generalize hwb : w.alloc _ = w1
  replace H := HS.eqW hwb H.alloc
  try simp only [World.size_alloc, List.nil_append, List.cons_append, List.append_assoc] at H
  clear hwb
  generalize w.heap.size = bX at H ⊢
  try clear C
  have C := H.cells
  try simp only [cellsOf, cellsM, apartOf, apartM, and_true] at C
  have hbl := HB.out.lt
  have cN : ∀ o, w1.cell? ⟨bN, o, none⟩ = #[.int .i64 p0, .int .i64 p1, .int .i64 p2, .int .i64 p3, .int .i64 p4, .int .i64 p5, .int .i64 pl][o]? := fun o => (H.was (p := ⟨bN, o, none⟩) hbl (fun h => h)).trans (HB.out.cell o)
  go_wp2_with fail
  go_ret
  exact ⟨rfl, H.done⟩
set_option maxHeartbeats 16000000 in
theorem pvalid_any (a0 a1 a2 a3 a4 a5 : Int) {sa : Option Addr} (c : Nat) {l : List Nd} (hx : l.length ≤ 100000) (hcap : l.length ≤ c) (w : World) (hl : Lies w w.heap.size sa 7 l.length (fun j => ndC l[j]!)) :
    Calls Try.prog 18 #[v6 a0 a1 a2 a3 a4 a5, .slice sa l.length c] w (Gives (.bool (decide (validN ⟨a0, a1, a2, a3, a4, a5⟩ l))) w) := by
  have HL := Lib.hid hl
  clear hl
  go_enter Try.func18, Try.ntmps18
  have H := HS.start NoD w
  go_upto_region 1 with fail
  generalize hwb : w.alloc _ = w1
  replace H := HS.eqW hwb H.alloc
  try simp only [World.size_alloc, List.nil_append, List.cons_append, List.append_assoc] at H
  clear hwb
  generalize w.heap.size = bS at H ⊢
  try clear C
  have C := H.cells
  try simp only [cellsOf, cellsM, apartOf, apartM, and_true] at C
  skip
  by_cases hsv : SV a0 a1 a2 a3 a4 a5
  · have HSV := Lib.hid hsv
    have hsd := decide_eq_true hsv
    clear hsv
    by_cases h12 : l.length ≤ 12
    · have h12i : (l.length : Int) ≤ 12 := by omega
      go_wp2_with fail
      refine (valid_any _ _ _ _ _ _ _).mono ?_
      rintro _ w5 ⟨rfl, hb⟩
      replace H := H.below hb
      clear hb
      skip
      try clear C
      try simp only [World.size_alloc, List.nil_append, List.cons_append, List.append_assoc] at H
      have C := H.cells
      try simp only [cellsOf, cellsM, apartOf, apartM, and_true] at C
      rw [hsd]
      clear hsd
      go_wp2_with fail
      go_loopw [17] (fun j wr => ∃ (k : Nat), j = .int .i64 k ∧ k ≤ l.length ∧ Hid (∀ i, i < k → goodN ⟨a0, a1, a2, a3, a4, a5⟩ l i) ∧ HS NoD w [.blk bS #[.int .i64 a0, .int .i64 a1, .int .i64 a2, .int .i64 a3, .int .i64 a4, .int .i64 a5] 28] wr) (fun j _ => l.length - (intOf j).toNat)
      case atStart => exact ⟨0, rfl, Nat.zero_le _, (show Hid _ from fun i hi => absurd hi (Nat.not_lt_zero _)), H⟩
      case round =>
        clear H C
        obtain ⟨k, rfl, hk, HA, H⟩ := hrel
        skip
        try clear C
        try simp only [World.size_alloc, List.nil_append, List.cons_append, List.append_assoc] at H
        have C := H.cells
        try simp only [cellsOf, cellsM, apartOf, apartM, and_true] at C
        by_cases hlt : k < l.length
        · have hki : (k : Int) < l.length := by omega
          have hkc : (k : Int) ≤ c := by omega
          obtain ⟨b, o, rfl, hb, hc⟩ := (H.lies HL.out).at hlt
          obtain ⟨q, hq⟩ : ∃ q, q = l[k]! := ⟨_, rfl⟩
          rw [← hq] at hc
          have HQ := Lib.hid hq
          clear hq
          obtain ⟨⟨p0, p1, p2, p3, p4, p5⟩, pl⟩ := q
          have c0 : wr.cell? ⟨b, o + k * 7, none⟩ = some (.int .i64 p0) := hc 0 _ rfl
          have c1 : wr.cell? ⟨b, o + k * 7 + 1, none⟩ = some (.int .i64 p1) := hc 1 _ rfl
          have c2 : wr.cell? ⟨b, o + k * 7 + 2, none⟩ = some (.int .i64 p2) := hc 2 _ rfl
          have c3 : wr.cell? ⟨b, o + k * 7 + 3, none⟩ = some (.int .i64 p3) := hc 3 _ rfl
          have c4 : wr.cell? ⟨b, o + k * 7 + 4, none⟩ = some (.int .i64 p4) := hc 4 _ rfl
          have c5 : wr.cell? ⟨b, o + k * 7 + 5, none⟩ = some (.int .i64 p5) := hc 5 _ rfl
          have c6 : wr.cell? ⟨b, o + k * 7 + 6, none⟩ = some (.int .i64 pl) := hc 6 _ rfl
          clear hc hb
          go_upto_region 6 with fail
          clear c0 c1 c2 c3 c4 c5 c6
          generalize hwb : wr.alloc _ = w2
          replace H := HS.eqW hwb H.alloc
          try simp only [World.size_alloc, List.nil_append, List.cons_append, List.append_assoc] at H
          clear hwb
          generalize wr.heap.size = bN at H ⊢
          try clear C
          try clear wr
          have C := H.cells
          try simp only [cellsOf, cellsM, apartOf, apartM, and_true] at C
          skip
          by_cases hv : SV a0 a1 a2 a3 a4 a5 ∧ PV a0 a1 a2 a3 a4 a5 p0 p1 p2 p3 p4 p5
          · have hvd := decide_eq_true hv
            have HVV := Lib.hid hv
            clear hv
            by_cases hf : p5 = 0
            · subst hf
              by_cases hn : 0 ≤ pl
              · by_cases hm : pl ≤ 1099511627776
                · have HCT := Lib.hid (fun wx (hx : Lies wx wx.heap.size (some ⟨b, o, none⟩) 7 (l.take k).length (fun j => ndC (l.take k)[j]!)) (bN : Nat) (hb : Blk wx bN #[.int .i64 p0, .int .i64 p1, .int .i64 p2, .int .i64 p3, .int .i64 p4, .int .i64 0, .int .i64 pl] 41) =>
                    containsD 42 (fun _ _ => rfl) #[.pointer (some ⟨bN, 0, none⟩)] (fun x => decide (x.p = ⟨p0, p1, p2, p3, p4, 0⟩)) (sa := some ⟨b, o, none⟩) c (xs := l.take k) (by rw [List.length_take]; omega) wx hx (fun W x hB => pvalid1_any x bN p0 p1 p2 p3 p4 0 pl W (Blk.below hb hB)))
                  have htl : (l.take k).length = k := by simp; omega
                  skip
                  go_wp2_with fail
                  refine (validPlace_all _ _ _ _ _ _ _ _ _ _ _ _ _).mono ?_
                  rintro _ wb ⟨rfl, hb⟩
                  replace H := H.below hb
                  clear hb
                  skip
                  try clear C
                  try simp only [World.size_alloc, List.nil_append, List.cons_append, List.append_assoc] at H
                  have C := H.cells
                  try simp only [cellsOf, cellsM, apartOf, apartM, and_true] at C
                  rw [hvd]
                  go_wp2_with fail
                  have HCU := Lib.hid (HCT.out _ (H.liesUp (HL.out.take hk)) _ (H.at 1 rfl))
                  rw [htl] at HCU
                  refine HCU.out.mono ?_
                  rintro _ wc ⟨rfl, hb⟩
                  clear HCU HCT
                  replace H := H.below hb
                  clear hb
                  skip
                  try clear C
                  try simp only [World.size_alloc, List.nil_append, List.cons_append, List.append_assoc] at H
                  have C := H.cells
                  try simp only [cellsOf, cellsM, apartOf, apartM, and_true] at C
                  have HIF := Lib.hid (show PV a0 a1 a2 a3 a4 a5 p0 p1 p2 p3 p4 0 from HVV.out.2)
                  have HNM := Lib.hid (show 0 ≤ pl ∧ pl ≤ 1099511627776 from ⟨hn, hm⟩)
                  cases hq : (l.take k).any (fun x => decide (x.p = ⟨p0, p1, p2, p3, p4, 0⟩)) with
                  | true =>
                    have HQQ := Lib.hid (take_any.1 hq)
                    clear hq
                    go_wp2_with fail
                    go_ret
                    refine ⟨?_, H.done⟩
                    rw [decide_eq_false (fun h : validN ⟨a0, a1, a2, a3, a4, a5⟩ l => (by have hg := h.2.2 k hlt; unfold goodN at hg; rw [← HQ.out] at hg; exact HQQ.out hg.2.2.2.2))]
                    rfl
                  | false =>
                    have HQQ := Lib.hid (show ∀ x ∈ l.take k, x.p ≠ ⟨p0, p1, p2, p3, p4, 0⟩ from Decidable.byContradiction fun h => by have := take_any.2 h; rw [hq] at this; cases this)
                    clear hq
                    go_wp2_with fail
                    go_roundw
                    case rel =>
                      refine ⟨k + 1, by go_num, by omega, (show Hid _ from fun i hi => ?_), H.less (by repeat (first | exact .slnil | refine .cons_cons _ ?_ | refine .cons _ ?_))⟩
                      by_cases e : i = k
                      · subst e; unfold goodN; rw [← HQ.out]; exact ⟨HIF.out, rfl, HNM.out.1, HNM.out.2, HQQ.out⟩
                      · exact HA.out i (by omega)
                    case measure => simp [intOf]; omega
                · skip
                  go_wp2_with fail
                  refine (validPlace_all _ _ _ _ _ _ _ _ _ _ _ _ _).mono ?_
                  rintro _ wb ⟨rfl, hb⟩
                  replace H := H.below hb
                  clear hb
                  skip
                  try clear C
                  try simp only [World.size_alloc, List.nil_append, List.cons_append, List.append_assoc] at H
                  have C := H.cells
                  try simp only [cellsOf, cellsM, apartOf, apartM, and_true] at C
                  rw [hvd]
                  go_wp2_with fail
                  go_ret
                  refine ⟨?_, H.done⟩
                  rw [decide_eq_false (fun h : validN ⟨a0, a1, a2, a3, a4, a5⟩ l => (by have hg := h.2.2 k hlt; unfold goodN at hg; rw [← HQ.out] at hg; have := hg.2.2.2.1; dsimp only at this; omega))]
                  rfl
              · skip
                go_wp2_with fail
                refine (validPlace_all _ _ _ _ _ _ _ _ _ _ _ _ _).mono ?_
                rintro _ wb ⟨rfl, hb⟩
                replace H := H.below hb
                clear hb
                skip
                try clear C
                try simp only [World.size_alloc, List.nil_append, List.cons_append, List.append_assoc] at H
                have C := H.cells
                try simp only [cellsOf, cellsM, apartOf, apartM, and_true] at C
                rw [hvd]
                go_wp2_with fail
                go_ret
                refine ⟨?_, H.done⟩
                rw [decide_eq_false (fun h : validN ⟨a0, a1, a2, a3, a4, a5⟩ l => (by have hg := h.2.2 k hlt; unfold goodN at hg; rw [← HQ.out] at hg; have := hg.2.2.1; dsimp only at this; omega))]
                rfl
            · have hfb : (p5 == 0) = false := beq_eq_false_iff_ne.2 hf
              skip
              go_wp2_with fail
              refine (validPlace_all _ _ _ _ _ _ _ _ _ _ _ _ _).mono ?_
              rintro _ wb ⟨rfl, hb⟩
              replace H := H.below hb
              clear hb
              skip
              try clear C
              try simp only [World.size_alloc, List.nil_append, List.cons_append, List.append_assoc] at H
              have C := H.cells
              try simp only [cellsOf, cellsM, apartOf, apartM, and_true] at C
              rw [hvd]
              go_wp2_with fail
              go_ret
              refine ⟨?_, H.done⟩
              rw [decide_eq_false (fun h : validN ⟨a0, a1, a2, a3, a4, a5⟩ l => (by have hg := h.2.2 k hlt; unfold goodN at hg; rw [← HQ.out] at hg; exact absurd hg.2.1 hf))]
              rfl
          · have hvd := decide_eq_false hv
            skip
            go_wp2_with fail
            refine (validPlace_all _ _ _ _ _ _ _ _ _ _ _ _ _).mono ?_
            rintro _ wb ⟨rfl, hb⟩
            replace H := H.below hb
            clear hb
            skip
            try clear C
            try simp only [World.size_alloc, List.nil_append, List.cons_append, List.append_assoc] at H
            have C := H.cells
            try simp only [cellsOf, cellsM, apartOf, apartM, and_true] at C
            rw [hvd]
            go_wp2_with fail
            go_ret
            refine ⟨?_, H.done⟩
            rw [decide_eq_false (fun h : validN ⟨a0, a1, a2, a3, a4, a5⟩ l => hv ⟨h.1, (by have hg := h.2.2 k hlt; unfold goodN at hg; rw [← HQ.out] at hg; exact hg.1)⟩)]
            rfl
        · go_wp2_with fail
          go_ret
          refine ⟨?_, H.done⟩
          rw [decide_eq_true (show validN ⟨a0, a1, a2, a3, a4, a5⟩ l from ⟨HSV.out, h12, fun i hi => HA.out i (by omega)⟩)]
          rfl
    · have h12i : ¬ (l.length : Int) ≤ 12 := by omega
      skip
      go_wp2_with fail
      refine (valid_any _ _ _ _ _ _ _).mono ?_
      rintro _ w5 ⟨rfl, hb⟩
      replace H := H.below hb
      clear hb
      skip
      try clear C
      try simp only [World.size_alloc, List.nil_append, List.cons_append, List.append_assoc] at H
      have C := H.cells
      try simp only [cellsOf, cellsM, apartOf, apartM, and_true] at C
      rw [hsd]
      go_wp2_with fail
      go_ret
      refine ⟨?_, H.done⟩
      rw [decide_eq_false (fun h : validN ⟨a0, a1, a2, a3, a4, a5⟩ l => h12 h.2.1)]
      rfl
  · have hsd := decide_eq_false hsv
    skip
    go_wp2_with fail
    refine (valid_any _ _ _ _ _ _ _).mono ?_
    rintro _ w5 ⟨rfl, hb⟩
    replace H := H.below hb
    clear hb
    skip
    try clear C
    try simp only [World.size_alloc, List.nil_append, List.cons_append, List.append_assoc] at H
    have C := H.cells
    try simp only [cellsOf, cellsM, apartOf, apartM, and_true] at C
    rw [hsd]
    go_wp2_with fail
    go_ret
    refine ⟨?_, H.done⟩
    rw [decide_eq_false (fun h : validN ⟨a0, a1, a2, a3, a4, a5⟩ l => hsv h.1)]
    rfl
end Go.Proofs.Ytdhnpjgnnfgklaa
