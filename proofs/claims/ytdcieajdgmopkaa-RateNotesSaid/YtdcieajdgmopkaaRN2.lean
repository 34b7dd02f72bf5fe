/- The specification of layer 26: Valid. -/
import Derived.Test.YtdcieajdgmopkaaRate6
namespace Go.Proofs.Ytdcieajdgmopkaa
set_option linter.unusedSimpArgs false
set_option linter.unusedVariables false
open Go.RowKit
set_option maxRecDepth 100000
attribute [local go_sem] lt_more ne_more ne_more'
attribute [local irreducible] wpX wpF Calls

set_option maxHeartbeats 8000000 in
theorem rv26_any (P L : Int) {sa : Option Addr} (c : Nat) {xs : List G3} (hx : xs.length ≤ 1000) (w : World) (hl : Lies w w.heap.size sa 3 xs.length (fun j => gC xs[j]!)) :
    Calls Try.prog 13 #[vG P L (.slice sa xs.length c)] w (Gives (.bool (rvB P L xs)) w) := by
  obtain ⟨V, hV⟩ : ∃ V, V = okF (-1) xs := ⟨_, rfl⟩
  have hres : rvB P L xs = (V && (decide (1 ≤ P ∧ P ≤ 1099511627776) && decide (1 ≤ L ∧ L ≤ 1048576) && decide (xs.length ≤ 64))) := by rw [hV]; rfl
  have HR := Lib.hid hres
  generalize rvB P L xs = R at HR ⊢
  have HV := Lib.hid hV
  have HL := Lib.hid hl
  have HX := Lib.hid hx
  clear hl hV hres
  go_enter Try.func13, Try.ntmps13
  have H := HS.start NoD w
  go_wp2_with fail
  generalize hwb : w.alloc _ = w1
  replace H := HS.eqW hwb H.alloc
  try simp only [World.size_alloc, List.nil_append, List.cons_append, List.append_assoc] at H
  clear hwb
  generalize w.heap.size = bG at H ⊢
  try clear C
  have C := H.cells
  try simp only [cellsOf, apartOf, and_true] at C
  go_loopw [8] (fun i wr => ∃ (j : Nat) (last : Int), i = .int .i64 j ∧ j ≤ xs.length ∧ ((j = 0 ∧ last = -1) ∨ (0 < j ∧ xs[j - 1]!.p = last ∧ 0 ≤ last)) ∧ Hid (okF last (xs.drop j) = V) ∧ HS NoD w [.blk bG #[.int .i64 P, .int .i64 L, .slice sa xs.length c] 24] wr) (fun i _ => xs.length - (intOf i).toNat)
  case atStart => exact ⟨0, -1, rfl, Nat.zero_le _, .inl ⟨rfl, rfl⟩, Lib.hid HV.out.symm, H⟩
  case round =>
    clear H C w1
    obtain ⟨j, last, rfl, hj, hlast, HOK, H⟩ := hrel
    skip
    try clear C
    try simp only [World.size_alloc, List.nil_append, List.cons_append, List.append_assoc] at H
    have C := H.cells
    try simp only [cellsOf, apartOf, and_true] at C
    have hx := HX.out
    by_cases hlt : j < xs.length
    · obtain ⟨b, o, rfl, hb, hc⟩ := (H.lies HL.out).at hlt
      have hdr := HOK.out
      rw [List.drop_eq_getElem_cons hlt, ← getElem!_pos xs j hlt] at hdr
      obtain ⟨x, hxj⟩ : ∃ x, x = xs[j]! := ⟨_, rfl⟩
      rw [← hxj] at hc hdr
      obtain ⟨p, l, t⟩ := x
      clear HOK
      have HOK := Lib.hid hdr
      have HXJ := Lib.hid hxj.symm
      have c0 : wr.cell? ⟨b, o + j * 3, none⟩ = some (.int .i64 p) := hc 0 _ rfl
      have c1 : wr.cell? ⟨b, o + j * 3 + 1, none⟩ = some (.int .i64 l) := hc 1 _ rfl
      have c2 : wr.cell? ⟨b, o + j * 3 + 2, none⟩ = some (.int .i64 t) := hc 2 _ rfl
      clear hc hxj hdr
      go_upto_region 4 with fail
      generalize hwb : wr.alloc _ = w2
      replace H := HS.eqW hwb H.alloc
      try simp only [World.size_alloc, List.nil_append, List.cons_append, List.append_assoc] at H
      clear hwb
      generalize wr.heap.size = bx at H ⊢
      try clear C
      try clear wr
      have C := H.cells
      try simp only [cellsOf, apartOf, and_true] at C
      clear c0 c1 c2
      skip
      by_cases g9 : p < 0
      · skip
        have hv : V = false := by
          have := HOK.out; simp only [okF] at this; rw [← this]
          have hn : ¬ last < p := by rcases hlast with ⟨_, h⟩ | ⟨_, _, h⟩ <;> omega
          simp [hn]
        subst hv
        have hr : R = false := by rw [HR.out, Bool.false_and]
        subst hr
        refine wp_region_xH (by kernel_rfl) (by kernel_rfl) (by kernel_rfl) (by kernel_rfl) (fun _ => False) (H) ?_
        clear H; intro w3 H hz0 hs0
        try clear C
        try simp only [World.size_alloc, List.nil_append, List.cons_append, List.append_assoc] at H hz0
        clear hz0
        try clear w2
        have C := H.cells
        try simp only [cellsOf, apartOf, and_true] at C
        have Z := H.zs
        try simp only [ltsOf, and_true] at Z
        have hz0 := Nat.le_refl w3.heap.size
        repeat (first | (refine wpX_skip rfl ?_; go_simp) | (refine wpX_free rfl rfl rfl (fun K hK => ?_); go_step; refine hK _ _ ?_; clear hK K) | (refine wpX_load rfl rfl rfl (by simp [Stay, OneD, NoD, *]) hs0 (by simp [*]) (fun K hK => ?_); go_step; refine hK _ _ ?_; clear hK K))
        (refine wpX_nil ?_; go_step)
        go_wp2_with fail
        go_ret
        exact ⟨rfl, H.done⟩
      · rcases hlast with ⟨hj0, hl0⟩ | ⟨hj0, hl0, hl1⟩
        · subst hj0
          subst hl0
          have hlt0 := hlt
          by_cases g0 : l < 1
          · have hv : V = false := by have := HOK.out; simp only [okF] at this; rw [← this]; have hn : ¬ (1 ≤ l ∧ l ≤ 1048576) := (by omega); simp [hn]
            subst hv
            have hr : R = false := by rw [HR.out, Bool.false_and]
            subst hr
            skip
            refine wp_region_xH (by kernel_rfl) (by kernel_rfl) (by kernel_rfl) (by kernel_rfl) (fun _ => False) (H) ?_
            clear H; intro w4 H hz0 hs0
            try clear C
            try simp only [World.size_alloc, List.nil_append, List.cons_append, List.append_assoc] at H hz0
            clear hz0
            try clear w2
            have C := H.cells
            try simp only [cellsOf, apartOf, and_true] at C
            have Z := H.zs
            try simp only [ltsOf, and_true] at Z
            have hz0 := Nat.le_refl w4.heap.size
            repeat (first | (refine wpX_skip rfl ?_; go_simp) | (refine wpX_free rfl rfl rfl (fun K hK => ?_); go_step; refine hK _ _ ?_; clear hK K) | (refine wpX_load rfl rfl rfl (by simp [Stay, OneD, NoD, *]) hs0 (by simp [*]) (fun K hK => ?_); go_step; refine hK _ _ ?_; clear hK K))
            (refine wpX_nil ?_; go_step)
            go_wp2_with fail
            go_ret
            exact ⟨rfl, H.done⟩
          · by_cases g1 : 1048576 < l
            · have hv : V = false := by have := HOK.out; simp only [okF] at this; rw [← this]; have hn : ¬ (1 ≤ l ∧ l ≤ 1048576) := (by omega); simp [hn]
              subst hv
              have hr : R = false := by rw [HR.out, Bool.false_and]
              subst hr
              skip
              refine wp_region_xH (by kernel_rfl) (by kernel_rfl) (by kernel_rfl) (by kernel_rfl) (fun _ => False) (H) ?_
              clear H; intro w5 H hz0 hs0
              try clear C
              try simp only [World.size_alloc, List.nil_append, List.cons_append, List.append_assoc] at H hz0
              clear hz0
              try clear w2
              have C := H.cells
              try simp only [cellsOf, apartOf, and_true] at C
              have Z := H.zs
              try simp only [ltsOf, and_true] at Z
              have hz0 := Nat.le_refl w5.heap.size
              repeat (first | (refine wpX_skip rfl ?_; go_simp) | (refine wpX_free rfl rfl rfl (fun K hK => ?_); go_step; refine hK _ _ ?_; clear hK K) | (refine wpX_load rfl rfl rfl (by simp [Stay, OneD, NoD, *]) hs0 (by simp [*]) (fun K hK => ?_); go_step; refine hK _ _ ?_; clear hK K))
              (refine wpX_nil ?_; go_step)
              go_wp2_with fail
              go_ret
              exact ⟨rfl, H.done⟩
            · by_cases g2 : t < 0
              · have hv : V = false := by have := HOK.out; simp only [okF] at this; rw [← this]; have hn : ¬ (0 ≤ t ∧ t ≤ 1099511627776) := (by omega); simp [hn]
                subst hv
                have hr : R = false := by rw [HR.out, Bool.false_and]
                subst hr
                skip
                refine wp_region_xH (by kernel_rfl) (by kernel_rfl) (by kernel_rfl) (by kernel_rfl) (fun _ => False) (H) ?_
                clear H; intro w6 H hz0 hs0
                try clear C
                try simp only [World.size_alloc, List.nil_append, List.cons_append, List.append_assoc] at H hz0
                clear hz0
                try clear w2
                have C := H.cells
                try simp only [cellsOf, apartOf, and_true] at C
                have Z := H.zs
                try simp only [ltsOf, and_true] at Z
                have hz0 := Nat.le_refl w6.heap.size
                repeat (first | (refine wpX_skip rfl ?_; go_simp) | (refine wpX_free rfl rfl rfl (fun K hK => ?_); go_step; refine hK _ _ ?_; clear hK K) | (refine wpX_load rfl rfl rfl (by simp [Stay, OneD, NoD, *]) hs0 (by simp [*]) (fun K hK => ?_); go_step; refine hK _ _ ?_; clear hK K))
                (refine wpX_nil ?_; go_step)
                go_wp2_with fail
                go_ret
                exact ⟨rfl, H.done⟩
              · by_cases g3 : 1099511627776 < t
                · have hv : V = false := by have := HOK.out; simp only [okF] at this; rw [← this]; have hn : ¬ (0 ≤ t ∧ t ≤ 1099511627776) := (by omega); simp [hn]
                  subst hv
                  have hr : R = false := by rw [HR.out, Bool.false_and]
                  subst hr
                  skip
                  refine wp_region_xH (by kernel_rfl) (by kernel_rfl) (by kernel_rfl) (by kernel_rfl) (fun _ => False) (H) ?_
                  clear H; intro w7 H hz0 hs0
                  try clear C
                  try simp only [World.size_alloc, List.nil_append, List.cons_append, List.append_assoc] at H hz0
                  clear hz0
                  try clear w2
                  have C := H.cells
                  try simp only [cellsOf, apartOf, and_true] at C
                  have Z := H.zs
                  try simp only [ltsOf, and_true] at Z
                  have hz0 := Nat.le_refl w7.heap.size
                  repeat (first | (refine wpX_skip rfl ?_; go_simp) | (refine wpX_free rfl rfl rfl (fun K hK => ?_); go_step; refine hK _ _ ?_; clear hK K) | (refine wpX_load rfl rfl rfl (by simp [Stay, OneD, NoD, *]) hs0 (by simp [*]) (fun K hK => ?_); go_step; refine hK _ _ ?_; clear hK K))
                  (refine wpX_nil ?_; go_step)
                  go_wp2_with fail
                  go_ret
                  exact ⟨rfl, H.done⟩
                · skip
                  refine wp_region_xH (by kernel_rfl) (by kernel_rfl) (by kernel_rfl) (by kernel_rfl) (fun _ => False) (H) ?_
                  clear H; intro w8 H hz0 hs0
                  try clear C
                  try simp only [World.size_alloc, List.nil_append, List.cons_append, List.append_assoc] at H hz0
                  clear hz0
                  try clear w2
                  have C := H.cells
                  try simp only [cellsOf, apartOf, and_true] at C
                  have Z := H.zs
                  try simp only [ltsOf, and_true] at Z
                  have hz0 := Nat.le_refl w8.heap.size
                  repeat (first | (refine wpX_skip rfl ?_; go_simp) | (refine wpX_free rfl rfl rfl (fun K hK => ?_); go_step; refine hK _ _ ?_; clear hK K) | (refine wpX_load rfl rfl rfl (by simp [Stay, OneD, NoD, *]) hs0 (by simp [*]) (fun K hK => ?_); go_step; refine hK _ _ ?_; clear hK K))
                  (refine wpX_nil ?_; go_step)
                  go_wp2_with fail
                  go_roundw
                  case rel => exact ⟨0 + 1, p, by go_num, by omega, .inr ⟨by omega, by rw [Nat.add_sub_cancel]; exact congrArg G3.p HXJ.out, by omega⟩, Lib.hid (by
                    have := HOK.out
                    simp only [okF] at this
                    rw [← this]
                    have n1 : (-1 : Int) < p := by omega
                    have n2 : 1 ≤ l ∧ l ≤ 1048576 := by omega
                    have n3 : 0 ≤ t ∧ t ≤ 1099511627776 := by omega
                    simp [n1, n2, n3]), H.less (by repeat (first | exact .slnil | refine .cons_cons _ ?_ | refine .cons _ ?_))⟩
                  case measure => simp [intOf]; omega
        · obtain ⟨i, rfl⟩ : ∃ i, j = i + 1 := ⟨j - 1, by omega⟩
          rw [Nat.add_sub_cancel] at hl0
          by_cases g0 : p ≤ last
          · have hv : V = false := by have := HOK.out; simp only [okF] at this; rw [← this]; have hn : ¬ last < p := (by omega); simp [hn]
            subst hv
            have hr : R = false := by rw [HR.out, Bool.false_and]
            subst hr
            skip
            refine wp_region_xH (by kernel_rfl) (by kernel_rfl) (by kernel_rfl) (by kernel_rfl) (fun _ => False) (H) ?_
            clear H; intro w9 H hz0 hs0
            try clear C
            try simp only [World.size_alloc, List.nil_append, List.cons_append, List.append_assoc] at H hz0
            clear hz0
            try clear w2
            have C := H.cells
            try simp only [cellsOf, apartOf, and_true] at C
            have Z := H.zs
            try simp only [ltsOf, and_true] at Z
            have hz0 := Nat.le_refl w9.heap.size
            have cp : w9.cell? ⟨b, o + i * 3, none⟩ = some (.int .i64 last) := by
              obtain ⟨b', o', e, -, hc⟩ := (H.lies HL.out).at (show i < xs.length by omega)
              cases e
              rw [← hl0]
              exact hc 0 _ rfl
            have hbw : b < w9.heap.size := Nat.lt_of_lt_of_le hb H.size
            repeat (first | (refine wpX_skip rfl ?_; go_simp) | (refine wpX_free rfl rfl rfl (fun K hK => ?_); go_step; refine hK _ _ ?_; clear hK K) | (refine wpX_load rfl rfl rfl (by simp [Stay, OneD, NoD, *]) hs0 (by simp [*]) (fun K hK => ?_); go_step; refine hK _ _ ?_; clear hK K))
            (refine wpX_nil ?_; go_step)
            go_wp2_with fail
            go_ret
            exact ⟨rfl, H.done⟩
          · by_cases g1 : l < 1
            · have hv : V = false := by have := HOK.out; simp only [okF] at this; rw [← this]; have hn : ¬ (1 ≤ l ∧ l ≤ 1048576) := (by omega); simp [hn]
              subst hv
              have hr : R = false := by rw [HR.out, Bool.false_and]
              subst hr
              skip
              refine wp_region_xH (by kernel_rfl) (by kernel_rfl) (by kernel_rfl) (by kernel_rfl) (fun _ => False) (H) ?_
              clear H; intro w10 H hz0 hs0
              try clear C
              try simp only [World.size_alloc, List.nil_append, List.cons_append, List.append_assoc] at H hz0
              clear hz0
              try clear w2
              have C := H.cells
              try simp only [cellsOf, apartOf, and_true] at C
              have Z := H.zs
              try simp only [ltsOf, and_true] at Z
              have hz0 := Nat.le_refl w10.heap.size
              have cp : w10.cell? ⟨b, o + i * 3, none⟩ = some (.int .i64 last) := by
                obtain ⟨b', o', e, -, hc⟩ := (H.lies HL.out).at (show i < xs.length by omega)
                cases e
                rw [← hl0]
                exact hc 0 _ rfl
              have hbw : b < w10.heap.size := Nat.lt_of_lt_of_le hb H.size
              repeat (first | (refine wpX_skip rfl ?_; go_simp) | (refine wpX_free rfl rfl rfl (fun K hK => ?_); go_step; refine hK _ _ ?_; clear hK K) | (refine wpX_load rfl rfl rfl (by simp [Stay, OneD, NoD, *]) hs0 (by simp [*]) (fun K hK => ?_); go_step; refine hK _ _ ?_; clear hK K))
              (refine wpX_nil ?_; go_step)
              go_wp2_with fail
              go_ret
              exact ⟨rfl, H.done⟩
            · by_cases g2 : 1048576 < l
              · have hv : V = false := by have := HOK.out; simp only [okF] at this; rw [← this]; have hn : ¬ (1 ≤ l ∧ l ≤ 1048576) := (by omega); simp [hn]
                subst hv
                have hr : R = false := by rw [HR.out, Bool.false_and]
                subst hr
                skip
                refine wp_region_xH (by kernel_rfl) (by kernel_rfl) (by kernel_rfl) (by kernel_rfl) (fun _ => False) (H) ?_
                clear H; intro w11 H hz0 hs0
                try clear C
                try simp only [World.size_alloc, List.nil_append, List.cons_append, List.append_assoc] at H hz0
                clear hz0
                try clear w2
                have C := H.cells
                try simp only [cellsOf, apartOf, and_true] at C
                have Z := H.zs
                try simp only [ltsOf, and_true] at Z
                have hz0 := Nat.le_refl w11.heap.size
                have cp : w11.cell? ⟨b, o + i * 3, none⟩ = some (.int .i64 last) := by
                  obtain ⟨b', o', e, -, hc⟩ := (H.lies HL.out).at (show i < xs.length by omega)
                  cases e
                  rw [← hl0]
                  exact hc 0 _ rfl
                have hbw : b < w11.heap.size := Nat.lt_of_lt_of_le hb H.size
                repeat (first | (refine wpX_skip rfl ?_; go_simp) | (refine wpX_free rfl rfl rfl (fun K hK => ?_); go_step; refine hK _ _ ?_; clear hK K) | (refine wpX_load rfl rfl rfl (by simp [Stay, OneD, NoD, *]) hs0 (by simp [*]) (fun K hK => ?_); go_step; refine hK _ _ ?_; clear hK K))
                (refine wpX_nil ?_; go_step)
                go_wp2_with fail
                go_ret
                exact ⟨rfl, H.done⟩
              · by_cases g3 : t < 0
                · have hv : V = false := by have := HOK.out; simp only [okF] at this; rw [← this]; have hn : ¬ (0 ≤ t ∧ t ≤ 1099511627776) := (by omega); simp [hn]
                  subst hv
                  have hr : R = false := by rw [HR.out, Bool.false_and]
                  subst hr
                  skip
                  refine wp_region_xH (by kernel_rfl) (by kernel_rfl) (by kernel_rfl) (by kernel_rfl) (fun _ => False) (H) ?_
                  clear H; intro w12 H hz0 hs0
                  try clear C
                  try simp only [World.size_alloc, List.nil_append, List.cons_append, List.append_assoc] at H hz0
                  clear hz0
                  try clear w2
                  have C := H.cells
                  try simp only [cellsOf, apartOf, and_true] at C
                  have Z := H.zs
                  try simp only [ltsOf, and_true] at Z
                  have hz0 := Nat.le_refl w12.heap.size
                  have cp : w12.cell? ⟨b, o + i * 3, none⟩ = some (.int .i64 last) := by
                    obtain ⟨b', o', e, -, hc⟩ := (H.lies HL.out).at (show i < xs.length by omega)
                    cases e
                    rw [← hl0]
                    exact hc 0 _ rfl
                  have hbw : b < w12.heap.size := Nat.lt_of_lt_of_le hb H.size
                  repeat (first | (refine wpX_skip rfl ?_; go_simp) | (refine wpX_free rfl rfl rfl (fun K hK => ?_); go_step; refine hK _ _ ?_; clear hK K) | (refine wpX_load rfl rfl rfl (by simp [Stay, OneD, NoD, *]) hs0 (by simp [*]) (fun K hK => ?_); go_step; refine hK _ _ ?_; clear hK K))
                  (refine wpX_nil ?_; go_step)
                  go_wp2_with fail
                  go_ret
                  exact ⟨rfl, H.done⟩
                · by_cases g4 : 1099511627776 < t
                  · have hv : V = false := by have := HOK.out; simp only [okF] at this; rw [← this]; have hn : ¬ (0 ≤ t ∧ t ≤ 1099511627776) := (by omega); simp [hn]
                    subst hv
                    have hr : R = false := by rw [HR.out, Bool.false_and]
                    subst hr
                    skip
                    refine wp_region_xH (by kernel_rfl) (by kernel_rfl) (by kernel_rfl) (by kernel_rfl) (fun _ => False) (H) ?_
                    clear H; intro w13 H hz0 hs0
                    try clear C
                    try simp only [World.size_alloc, List.nil_append, List.cons_append, List.append_assoc] at H hz0
                    clear hz0
                    try clear w2
                    have C := H.cells
                    try simp only [cellsOf, apartOf, and_true] at C
                    have Z := H.zs
                    try simp only [ltsOf, and_true] at Z
                    have hz0 := Nat.le_refl w13.heap.size
                    have cp : w13.cell? ⟨b, o + i * 3, none⟩ = some (.int .i64 last) := by
                      obtain ⟨b', o', e, -, hc⟩ := (H.lies HL.out).at (show i < xs.length by omega)
                      cases e
                      rw [← hl0]
                      exact hc 0 _ rfl
                    have hbw : b < w13.heap.size := Nat.lt_of_lt_of_le hb H.size
                    repeat (first | (refine wpX_skip rfl ?_; go_simp) | (refine wpX_free rfl rfl rfl (fun K hK => ?_); go_step; refine hK _ _ ?_; clear hK K) | (refine wpX_load rfl rfl rfl (by simp [Stay, OneD, NoD, *]) hs0 (by simp [*]) (fun K hK => ?_); go_step; refine hK _ _ ?_; clear hK K))
                    (refine wpX_nil ?_; go_step)
                    go_wp2_with fail
                    go_ret
                    exact ⟨rfl, H.done⟩
                  · skip
                    refine wp_region_xH (by kernel_rfl) (by kernel_rfl) (by kernel_rfl) (by kernel_rfl) (fun _ => False) (H) ?_
                    clear H; intro w14 H hz0 hs0
                    try clear C
                    try simp only [World.size_alloc, List.nil_append, List.cons_append, List.append_assoc] at H hz0
                    clear hz0
                    try clear w2
                    have C := H.cells
                    try simp only [cellsOf, apartOf, and_true] at C
                    have Z := H.zs
                    try simp only [ltsOf, and_true] at Z
                    have hz0 := Nat.le_refl w14.heap.size
                    have cp : w14.cell? ⟨b, o + i * 3, none⟩ = some (.int .i64 last) := by
                      obtain ⟨b', o', e, -, hc⟩ := (H.lies HL.out).at (show i < xs.length by omega)
                      cases e
                      rw [← hl0]
                      exact hc 0 _ rfl
                    have hbw : b < w14.heap.size := Nat.lt_of_lt_of_le hb H.size
                    repeat (first | (refine wpX_skip rfl ?_; go_simp) | (refine wpX_free rfl rfl rfl (fun K hK => ?_); go_step; refine hK _ _ ?_; clear hK K) | (refine wpX_load rfl rfl rfl (by simp [Stay, OneD, NoD, *]) hs0 (by simp [*]) (fun K hK => ?_); go_step; refine hK _ _ ?_; clear hK K))
                    (refine wpX_nil ?_; go_step)
                    go_wp2_with fail
                    go_roundw
                    case rel => exact ⟨(i + 1) + 1, p, by go_num, by omega, .inr ⟨by omega, by rw [Nat.add_sub_cancel]; exact congrArg G3.p HXJ.out, by omega⟩, Lib.hid (by
                      have := HOK.out
                      simp only [okF] at this
                      rw [← this]
                      have n1 : last < p := by omega
                      have n2 : 1 ≤ l ∧ l ≤ 1048576 := by omega
                      have n3 : 0 ≤ t ∧ t ≤ 1099511627776 := by omega
                      simp [n1, n2, n3]), H.less (by repeat (first | exact .slnil | refine .cons_cons _ ?_ | refine .cons _ ?_))⟩
                    case measure => simp [intOf]; omega
    · have hje : j = xs.length := by omega
      subst hje
      have hv : V = true := by have := HOK.out; rw [List.drop_length] at this; exact this.symm
      clear HOK HV hlast
      subst hv
      skip
      by_cases g0 : P < 1
      · have hr : R = false := by rw [HR.out]; have hn : ¬ (1 ≤ P ∧ P ≤ 1099511627776) := by omega
                                  simp [hn]
        subst hr
        go_wp2_with fail
        go_ret
        exact ⟨rfl, H.done⟩
      · by_cases g1 : 1099511627776 < P
        · have hr : R = false := by rw [HR.out]; have hn : ¬ (1 ≤ P ∧ P ≤ 1099511627776) := by omega
                                    simp [hn]
          subst hr
          go_wp2_with fail
          go_ret
          exact ⟨rfl, H.done⟩
        · by_cases g2 : L < 1
          · have hr : R = false := by rw [HR.out]; have hn : ¬ (1 ≤ L ∧ L ≤ 1048576) := by omega
                                      simp [hn]
            subst hr
            go_wp2_with fail
            go_ret
            exact ⟨rfl, H.done⟩
          · by_cases g3 : 1048576 < L
            · have hr : R = false := by rw [HR.out]; have hn : ¬ (1 ≤ L ∧ L ≤ 1048576) := by omega
                                        simp [hn]
              subst hr
              go_wp2_with fail
              go_ret
              exact ⟨rfl, H.done⟩
            · by_cases g4 : (64 : Int) < xs.length
              · have hr : R = false := by rw [HR.out]; have hn : ¬ xs.length ≤ 64 := by omega
                                          simp [hn]
                subst hr
                go_wp2_with fail
                go_ret
                exact ⟨by first | rfl | (simp; omega), H.done⟩
              · have hr : R = true := by
                  rw [HR.out]
                  have n1 : 1 ≤ P ∧ P ≤ 1099511627776 := by omega
                  have n2 : 1 ≤ L ∧ L ≤ 1048576 := by omega
                  have n3 : xs.length ≤ 64 := by omega
                  simp [n1, n2, n3]
                subst hr
                go_wp2_with fail
                go_ret
                exact ⟨rfl, H.done⟩
end Go.Proofs.Ytdcieajdgmopkaa
