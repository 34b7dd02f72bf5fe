/- mill.Programs: valid programs out of a stream of numbers. -/
import Derived.Test.YtedbpmckgiifpaaGreatO7
import Derived.Test.YtedbpmckgiifpaaGreatPGood
import Derived.Test.YtedbpmckgiifpaaGreatJ1
namespace Go.Proofs.YtedbpmckgiifpaaGreat
set_option linter.unusedSimpArgs false
set_option linter.unusedVariables false
open Go.RowKit
set_option maxRecDepth 100000
attribute [local go_sem] lt_more ne_more ne_more'
attribute [local irreducible] wpX wpF Calls

/-- What mill.Programs makes. -/
structure MP (F : Int) (ps : List Pr) : Prop where
  good : GoodP F ps
  three : 3 ≤ ps.length
  low : ∀ p ∈ ps, p.id ≤ 20 ∧ p.told = []
theorem GoodP.small {F : Int} {ps : List Pr} (h : GoodP F ps) : SmallP ps := ⟨by have := h.len; omega, fun p hp => by have := (h.one p hp).plen; have := (h.one p hp).told; omega⟩
theorem mapP_low {ps out : List Pr} {id n f : Int} (e : mapP ps id n f = (0, out)) (h : ∀ p ∈ ps, p.id ≤ 20 ∧ p.told = []) : ∀ p ∈ out, p.id ≤ 20 ∧ p.told = [] := by
  unfold mapP at e
  cases hi : ps.findIdx? (live id) with
  | none => rw [hi] at e; cases e
  | some i =>
    rw [hi] at e
    dsimp only at e
    split at e
    · cases e
    · split at e
      · cases e
      · split at e
        · cases e
        · split at e
          · cases e
          · cases e
            intro p hp
            rcases List.mem_or_eq_of_mem_set hp with hp | rfl
            · exact h p hp
            · exact show (ps[i]!).id ≤ 20 ∧ (ps[i]!).told = [] from h _ (at_mem (live_at hi).1)
theorem forkP_low {ps out : List Pr} {id o : Int} (ho : o ≤ 20) (e : forkP ps id o = (0, out)) (h : ∀ p ∈ ps, p.id ≤ 20 ∧ p.told = []) : ∀ p ∈ out, p.id ≤ 20 ∧ p.told = [] := by
  unfold forkP at e
  cases hi : ps.findIdx? (live id) with
  | none => rw [hi] at e; cases e
  | some i =>
    rw [hi] at e
    dsimp only at e
    split at e
    · cases e
    · split at e
      · cases e
      · split at e
        · cases e
        · cases e
          intro p hp
          rcases mem_insPr hp with rfl | hp
          · exact ⟨ho, rfl⟩
          · rcases List.mem_or_eq_of_mem_set hp with hp | rfl
            · exact h p hp
            · exact show (ps[i]!).id ≤ 20 ∧ (ps[i]!).told = [] from h _ (at_mem (live_at hi).1)
theorem endP_low {ps out : List Pr} {g : List Int} {id : Int} (e : endP ps id = (0, out, g)) (h : ∀ p ∈ ps, p.id ≤ 20 ∧ p.told = []) : ∀ p ∈ out, p.id ≤ 20 ∧ p.told = [] := by
  unfold endP at e
  cases hi : ps.findIdx? (live id) with
  | none => rw [hi] at e; cases e
  | some i =>
    rw [hi] at e
    dsimp only at e
    cases e
    intro p hp
    rcases List.mem_or_eq_of_mem_set hp with hp | rfl
    · exact h p hp
    · exact show (ps[i]!).id ≤ 20 ∧ (ps[i]!).told = [] from h _ (at_mem (live_at hi).1)
theorem MP.map {F : Int} {ps out : List Pr} (h : MP F ps) {id n f : Int} (hf : f < F) (e : mapP ps id n f = (0, out)) : MP F out :=
  ⟨(h.good.map hf e).1, by rw [(h.good.map hf e).2]; exact h.three, mapP_low e h.low⟩
theorem MP.fork {F : Int} {ps out : List Pr} (h : MP F ps) {id o : Int} (ho : o ≤ 20) (e : forkP ps id o = (0, out)) : MP F out :=
  ⟨(h.good.fork e).1, by rw [(h.good.fork e).2]; have := h.three; omega, forkP_low ho e h.low⟩
theorem MP.ends {F : Int} {ps out : List Pr} {g : List Int} (h : MP F ps) {id : Int} (e : endP ps id = (0, out, g)) : MP F out :=
  ⟨(h.good.ends e).1, by rw [(h.good.ends e).2]; exact h.three, endP_low e h.low⟩
theorem MP.mono {F F' : Int} {ps : List Pr} (h : MP F ps) (hF : F ≤ F') : MP F' ps := ⟨h.good.mono hF, h.three, h.low⟩
/-- The programs of the first loop. -/
structure NP (k : Int) (ps : List Pr) : Prop where
  len : (ps.length : Int) = k - 1
  one : ∀ p ∈ ps, 5 ≤ p.id ∧ p.id < 5 * k ∧ p.pages = [] ∧ p.told = [] ∧ p.dead = false
  asc : ps.Pairwise (·.id < ·.id)
theorem NP.snoc {k : Int} {ps : List Pr} (h : NP k ps) (hk : 1 ≤ k) (b : Bool) : NP (k + 1) (ps ++ [⟨k * 5, b, false, [], []⟩]) := by
  refine ⟨by have := h.len; rw [List.length_append]; simp; omega, fun p hp => ?_, List.pairwise_append.2 ⟨h.asc, List.pairwise_singleton _ _, fun p hp q hq => ?_⟩⟩
  · rcases List.mem_append.1 hp with hp | hp
    · have := h.one p hp; refine ⟨this.1, by omega, this.2.2⟩
    · cases List.mem_singleton.1 hp; exact ⟨by dsimp only; omega, by dsimp only; omega, rfl, rfl, rfl⟩
  · cases List.mem_singleton.1 hq
    have := h.one p hp
    dsimp only; omega
theorem NP.mp {ps : List Pr} (h : NP 4 ps) : MP 0 ps := by
  have hl := h.len
  refine ⟨⟨by omega, fun p hp => ?_, h.asc, ?_⟩, by omega, fun p hp => ?_⟩
  · obtain ⟨h1, h2, h3, h4, h5⟩ := h.one p hp
    exact ⟨by omega, by rw [h3]; exact Nat.zero_le _, by rw [h3]; exact .nil, fun x hx => by rw [h3] at hx; exact absurd hx List.not_mem_nil, by rw [h3]; exact .nil, (fun e => by rw [h5] at e; cases e), by rw [h4]; exact Nat.zero_le _⟩
  · refine h.asc.imp_of_mem fun {a b} ha hb _ => fun x hx => by
      rw [(h.one a ha).2.2.1] at hx; exact absurd hx List.not_mem_nil
  · obtain ⟨h1, h2, h3, h4, h5⟩ := h.one p hp
    exact ⟨by omega, h4⟩
/-- What a call with a stream hands back: valid programs. -/
def GivesMP (F : Int) (B b : Nat) (w : World) (x : Ending) (w' : World) : Prop :=
  ∃ v qs, x = .returned v ∧ MP F (qs.map (·.p)) ∧ HS (OneD b) w [.dice B b, Item.many (PsR v qs)] w'
set_option maxHeartbeats 8000000 in
theorem mprogs_any (F : Int) (hF : 0 ≤ F ∧ F ≤ 64) (B b : Nat) (w : World) (hd : Dice B w b) (hB : B ≤ w.heap.size) :
    Calls Tryz.prog 18 #[.pointer (some ⟨b, 0, none⟩), .int .i64 F] w (GivesMP F B b w) := by
  go_enter Tryz.func18, Tryz.ntmps18
  have H := HS.startDice hd hB
  have C := H.cells
  try simp only [cellsOf, cellsM, apartOf, apartM, and_true] at C
  clear hd
  go_wp2_with fail
  have hn := (H.nilRow 52 5).toMany (R := []) (L := [_, _]) (fun A hA => by cases hA)
  clear H
  have H := hn
  clear hn
  try simp only [List.nil_append, List.cons_append] at H
  go_loopw [5, 6] (fun u kk wr => ∃ (k : Int) (qs : List Pv), kk = .int .i64 k ∧ 1 ≤ k ∧ k ≤ 4 ∧ qs.length ≤ 4 ∧ Hid (NP k (qs.map (·.p))) ∧ HS (OneD b) w [.dice B b, .row u 52 5 qs.length (qs.flatMap pvC), Item.many (qs.flatMap innerR)] wr) (fun _ kk _ => (4 - intOf kk).toNat)
  case atStart => exact ⟨1, [], rfl, by omega, by omega, Nat.zero_le _, ⟨rfl, (fun p hp => by cases hp), List.Pairwise.nil⟩, H⟩
  case round =>
    clear H C
    obtain ⟨k, qs, rfl, hk1, hk2, hql, HN, H⟩ := hrel
    skip
    try clear C
    try simp only [World.size_alloc, List.nil_append, List.cons_append, List.append_assoc] at H
    have C := H.cells
    try simp only [cellsOf, cellsM, apartOf, apartM, and_true] at C
    by_cases hk : k ≤ 3
    · have hqk : qs.length ≤ 3 := by have := HN.out.len; simp at this; omega
      go_wp2_with fail
      refine (next_any 2 (by omega) B b _ (H.at 0 rfl)).mono ?_
      rintro _ w1 ⟨d, rfl, hd2, hd, hg⟩
      replace H := (H).diceAt 0 rfl hg hd
      clear hg hd
      try clear C
      try simp only [World.size_alloc, List.nil_append, List.cons_append, List.append_assoc] at H
      try clear wr
      have C := H.cells
      try simp only [cellsOf, cellsM, apartOf, apartM, and_true] at C
      dsimp only
      go_wp2_with (at_builtin; refine wpList_append_H rfl (.tmp 19) (.tmp 26) 28 rfl elemPr H.alloc 1 rfl rfl 3 rfl rfl rfl rfl (by decide) (by unfold maxLen; omega) (by omega) (fun g cap wz HZ => ?_); clear H C)
      go_roundw
      case rel =>
        refine ⟨k + 1, qs ++ [⟨⟨k * 5, decide (d = 0), false, [], []⟩, .slice none 0 0, .slice none 0 0⟩], rfl, by omega, by omega, by simp; omega, (show Hid _ from ?_), ?_⟩
        · rw [List.map_append]; exact HN.out.snoc hk1 _
        · rw [List.length_append, flat_one, flat_one]
          have H2 := HS.less (L' := [.dice B b, .row (.slice (some ⟨g, 0, none⟩) (qs.length + 1) cap) 52 5 (qs.length + 1) (qs.flatMap pvC ++ [.int .i64 (k * 5), .bool (decide (d = 0)), .bool false, .slice none 0 0, .slice none 0 0]), Item.many (qs.flatMap innerR)]) HZ (by repeat (first | exact .slnil | refine .cons_cons _ ?_ | refine .cons _ ?_))
          have H3 := (H2.nilRow 49 3).nilRow 3 1
          have H4 := HS.toMany (L := [.dice B b, .row (.slice (some ⟨g, 0, none⟩) (qs.length + 1) cap) 52 5 (qs.length + 1) (qs.flatMap pvC ++ [.int .i64 (k * 5), .bool (decide (d = 0)), .bool false, .slice none 0 0, .slice none 0 0]), Item.many (qs.flatMap innerR)]) (R := [.row (.slice none 0 0) 49 3 0 [], .row (.slice none 0 0) 3 1 0 []]) (by simpa using H3) (fun A hA => by simp only [List.mem_cons, List.mem_nil_iff, or_false] at hA; rcases hA with rfl | rfl <;> rfl)
          exact HS.manyJoin (L := [_, _]) H4
      case measure => simp [intOf]; omega
    · have hk4 : k = 4 := by omega
      subst hk4
      have HMP := Lib.hid HN.out.mp
      clear HN hk1 hk2
      replace H := HS.shutPs (L := [.dice B b]) H
      simp only [List.nil_append, List.cons_append] at H
      try clear C
      try simp only [World.size_alloc, List.nil_append, List.cons_append, List.append_assoc] at H
      have C := H.cells
      try simp only [cellsOf, cellsM, apartOf, apartM, and_true] at C
      go_wp2_with fail
      go_loopw [5, 7] (fun u kk wr => ∃ (k : Int) (qs : List Pv), kk = .int .i64 k ∧ 0 ≤ k ∧ k ≤ F ∧ Hid (MP k (qs.map (·.p))) ∧ HS (OneD b) w [.dice B b, Item.many (PsR u qs)] wr) (fun _ kk _ => (F - intOf kk).toNat)
      case atStart => exact ⟨0, qs, rfl, by omega, by omega, HMP.out, H⟩
      case round =>
        clear H C HMP qs hql
        obtain ⟨k, qs, rfl, hk0, hkF, HM, H⟩ := hrel
        skip
        try clear C
        try simp only [World.size_alloc, List.nil_append, List.cons_append, List.append_assoc] at H
        have C := H.cells
        try simp only [cellsOf, cellsM, apartOf, apartM, and_true] at C
        by_cases hk : k < F
        · have HSM := Lib.hid HM.out.good.small
          go_upto_block 3 with fail
          go_step
          go_step
          go_cut [5] from 33 to 50 (fun u wx => ∃ (qs : List Pv), Hid (MP (k + 1) (qs.map (·.p))) ∧ HS (OneD b) w [.dice B b, Item.many (PsR u qs)] wx)
          case first =>
            go_wp2_with fail
            refine (next_any 3 (by omega) B b _ (H.at 0 rfl)).mono ?_
            rintro _ w2 ⟨d, rfl, hd3, hd, hg⟩
            replace H := (H).diceAt 0 rfl hg hd
            clear hg hd
            try clear C
            try simp only [World.size_alloc, List.nil_append, List.cons_append, List.append_assoc] at H
            try clear wr
            have C := H.cells
            try simp only [cellsOf, cellsM, apartOf, apartM, and_true] at C
            dsimp only
            by_cases hd0 : 0 < d
            · go_wp2_with fail
              refine (next_any 3 (by omega) B b _ (H.at 0 rfl)).mono ?_
              rintro _ w3 ⟨d1, rfl, hd1, hd, hg⟩
              replace H := (H).diceAt 0 rfl hg hd
              clear hg hd
              try clear C
              try simp only [World.size_alloc, List.nil_append, List.cons_append, List.append_assoc] at H
              try clear w2
              have C := H.cells
              try simp only [cellsOf, cellsM, apartOf, apartM, and_true] at C
              dsimp only
              replace hd1 : 0 ≤ d1 ∧ d1 < 3 := ⟨hd1.1, hd1.lt (by decide)⟩
              go_wp2_with fail
              refine (next_any 8 (by omega) B b _ (H.at 0 rfl)).mono ?_
              rintro _ w4 ⟨d2, rfl, hd2, hd, hg⟩
              replace H := (H).diceAt 0 rfl hg hd
              clear hg hd
              try clear C
              try simp only [World.size_alloc, List.nil_append, List.cons_append, List.append_assoc] at H
              try clear w3
              have C := H.cells
              try simp only [cellsOf, cellsM, apartOf, apartM, and_true] at C
              dsimp only
              go_wp2_with fail
              refine (rmap_any (5 * (1 + d1)) d2 k HSM.out _ (H.ownPs 1 rfl)).mono ?_
              rintro _ w4 ⟨v4, rs, rfl, hrs, K⟩
              replace H := H.join1 K
              clear K
              simp only [List.nil_append, List.cons_append] at H
              obtain ⟨R, hR⟩ : ∃ R, R = mapP (qs.map (·.p)) (5 * (1 + d1)) d2 k := ⟨_, rfl⟩
              rw [← hR] at hrs
              rw [← hR]
              have HRR := Lib.hid hR
              have HRS := Lib.hid hrs
              clear hR hrs C
              obtain ⟨e, out⟩ := R
              dsimp only
              by_cases he : e = 0
              · subst he
                have HM2 := Lib.hid ((HM.out.mono (show k ≤ k + 1 by omega)).map (show k < k + 1 by omega) HRR.out.symm)
                skip
                try clear C
                try simp only [World.size_alloc, List.nil_append, List.cons_append, List.append_assoc] at H
                have C := H.cells
                try simp only [cellsOf, cellsM, apartOf, apartM, and_true] at C
                go_wp2_with fail
                go_meet
                case rel => exact ⟨rs, (show MP _ _ by rw [HRS.out]; exact HM2.out), H.less (by repeat (first | exact .slnil | refine .cons_cons _ ?_ | refine .cons _ ?_))⟩
              · have heb : (e == 0) = false := beq_eq_false_iff_ne.2 he
                skip
                try clear C
                try simp only [World.size_alloc, List.nil_append, List.cons_append, List.append_assoc] at H
                have C := H.cells
                try simp only [cellsOf, cellsM, apartOf, apartM, and_true] at C
                go_wp2_with fail
                go_meet
                case rel => exact ⟨qs, HM.out.mono (show k ≤ k + 1 by omega), H.less (by repeat (first | exact .slnil | refine .cons_cons _ ?_ | refine .cons _ ?_))⟩
            · go_wp2_with fail
              go_meet
              case rel => exact ⟨qs, HM.out.mono (show k ≤ k + 1 by omega), H⟩
          case rest =>
            clear H C HM HSM qs
            obtain ⟨qs, HM, H⟩ := hcut
            have HSM := Lib.hid HM.out.good.small
            skip
            try clear C
            try simp only [World.size_alloc, List.nil_append, List.cons_append, List.append_assoc] at H
            have C := H.cells
            try simp only [cellsOf, cellsM, apartOf, apartM, and_true] at C
            go_wp2_with fail
            refine (next_any 8 (by omega) B b _ (H.at 0 rfl)).mono ?_
            rintro _ w5 ⟨d, rfl, hd3, hd, hg⟩
            replace H := (H).diceAt 0 rfl hg hd
            clear hg hd
            try clear C
            try simp only [World.size_alloc, List.nil_append, List.cons_append, List.append_assoc] at H
            try clear wx
            have C := H.cells
            try simp only [cellsOf, cellsM, apartOf, apartM, and_true] at C
            dsimp only
            by_cases hd0 : d = 1
            · go_wp2_with fail
              refine (next_any 3 (by omega) B b _ (H.at 0 rfl)).mono ?_
              rintro _ w6 ⟨d1, rfl, hd1, hd, hg⟩
              replace H := (H).diceAt 0 rfl hg hd
              clear hg hd
              try clear C
              try simp only [World.size_alloc, List.nil_append, List.cons_append, List.append_assoc] at H
              try clear w5
              have C := H.cells
              try simp only [cellsOf, cellsM, apartOf, apartM, and_true] at C
              dsimp only
              replace hd1 : 0 ≤ d1 ∧ d1 < 3 := ⟨hd1.1, hd1.lt (by decide)⟩
              go_wp2_with fail
              refine (next_any 20 (by omega) B b _ (H.at 0 rfl)).mono ?_
              rintro _ w7 ⟨d2, rfl, hd2, hd, hg⟩
              replace H := (H).diceAt 0 rfl hg hd
              clear hg hd
              try clear C
              try simp only [World.size_alloc, List.nil_append, List.cons_append, List.append_assoc] at H
              try clear w6
              have C := H.cells
              try simp only [cellsOf, cellsM, apartOf, apartM, and_true] at C
              dsimp only
              replace hd2 : 0 ≤ d2 ∧ d2 < 20 := ⟨hd2.1, hd2.lt (by decide)⟩
              go_wp2_with fail
              refine (rfork_any (5 * (1 + d1)) (1 + d2) HSM.out _ (H.ownPs 1 rfl)).mono ?_
              rintro _ w4 ⟨v4, rs, rfl, hrs, K⟩
              replace H := H.join1 K
              clear K
              simp only [List.nil_append, List.cons_append] at H
              obtain ⟨R, hR⟩ : ∃ R, R = forkP (qs.map (·.p)) (5 * (1 + d1)) (1 + d2) := ⟨_, rfl⟩
              rw [← hR] at hrs
              rw [← hR]
              have HRR := Lib.hid hR
              have HRS := Lib.hid hrs
              clear hR hrs C
              obtain ⟨e, out⟩ := R
              dsimp only
              by_cases he : e = 0
              · subst he
                have HM2 := Lib.hid (HM.out.fork (show 1 + d2 ≤ 20 by omega) HRR.out.symm)
                skip
                try clear C
                try simp only [World.size_alloc, List.nil_append, List.cons_append, List.append_assoc] at H
                have C := H.cells
                try simp only [cellsOf, cellsM, apartOf, apartM, and_true] at C
                go_wp2_with fail
                go_roundw
                case rel => exact ⟨k + 1, rs, rfl, by omega, by omega, (show MP _ _ by rw [HRS.out]; exact HM2.out), H.less (by repeat (first | exact .slnil | refine .cons_cons _ ?_ | refine .cons _ ?_))⟩
                case measure => simp [intOf]; omega
              · have heb : (e == 0) = false := beq_eq_false_iff_ne.2 he
                skip
                try clear C
                try simp only [World.size_alloc, List.nil_append, List.cons_append, List.append_assoc] at H
                have C := H.cells
                try simp only [cellsOf, cellsM, apartOf, apartM, and_true] at C
                go_wp2_with fail
                go_roundw
                case rel => exact ⟨k + 1, qs, rfl, by omega, by omega, HM.out, H.less (by repeat (first | exact .slnil | refine .cons_cons _ ?_ | refine .cons _ ?_))⟩
                case measure => simp [intOf]; omega
            · have hde : (d == 1) = false := beq_eq_false_iff_ne.2 hd0
              go_wp2_with fail
              go_roundw
              case rel => exact ⟨k + 1, qs, rfl, by omega, by omega, HM.out, H⟩
              case measure => simp [intOf]; omega
        · have hkF2 : k = F := by omega
          subst hkF2
          have HSM := Lib.hid HM.out.good.small
          go_wp2_with fail
          refine (next_any 6 (by omega) B b _ (H.at 0 rfl)).mono ?_
          rintro _ w8 ⟨d, rfl, hd3, hd, hg⟩
          replace H := (H).diceAt 0 rfl hg hd
          clear hg hd
          try clear C
          try simp only [World.size_alloc, List.nil_append, List.cons_append, List.append_assoc] at H
          try clear w4
          have C := H.cells
          try simp only [cellsOf, cellsM, apartOf, apartM, and_true] at C
          dsimp only
          by_cases hd0 : d = 1
          · go_wp2_with fail
            refine (next_any 3 (by omega) B b _ (H.at 0 rfl)).mono ?_
            rintro _ w9 ⟨d1, rfl, hd1, hd, hg⟩
            replace H := (H).diceAt 0 rfl hg hd
            clear hg hd
            try clear C
            try simp only [World.size_alloc, List.nil_append, List.cons_append, List.append_assoc] at H
            try clear w8
            have C := H.cells
            try simp only [cellsOf, cellsM, apartOf, apartM, and_true] at C
            dsimp only
            replace hd1 : 0 ≤ d1 ∧ d1 < 3 := ⟨hd1.1, hd1.lt (by decide)⟩
            go_wp2_with fail
            refine (rend_any (5 * (1 + d1)) HSM.out _ (H.ownPs 1 rfl)).mono ?_
            rintro _ w4 ⟨v4, rs, s4, d4, rfl, hrs, K⟩
            replace H := H.join K (fun A hA => by simp only [List.mem_cons, List.mem_nil_iff, or_false] at hA; rcases hA with rfl | rfl <;> rfl)
            clear K
            simp only [List.nil_append, List.cons_append] at H
            obtain ⟨R, hR⟩ : ∃ R, R = endP (qs.map (·.p)) (5 * (1 + d1)) := ⟨_, rfl⟩
            rw [← hR] at hrs H
            rw [← hR]
            have HRR := Lib.hid hR
            have HRS := Lib.hid hrs
            clear hR hrs C
            obtain ⟨e, out, gone⟩ := R
            dsimp only at H ⊢
            by_cases he : e = 0
            · subst he
              have HM2 := Lib.hid (HM.out.ends HRR.out.symm)
              skip
              try clear C
              try simp only [World.size_alloc, List.nil_append, List.cons_append, List.append_assoc] at H
              have C := H.cells
              try simp only [cellsOf, cellsM, apartOf, apartM, and_true] at C
              go_wp2_with fail
              go_ret
              exact ⟨v4, rs, rfl, (show MP _ _ by rw [HRS.out]; exact HM2.out), H.less (by repeat (first | exact .slnil | refine .cons_cons _ ?_ | refine .cons _ ?_))⟩
            · have heb : (e == 0) = false := beq_eq_false_iff_ne.2 he
              skip
              try clear C
              try simp only [World.size_alloc, List.nil_append, List.cons_append, List.append_assoc] at H
              have C := H.cells
              try simp only [cellsOf, cellsM, apartOf, apartM, and_true] at C
              go_wp2_with fail
              go_ret
              exact ⟨_, qs, rfl, HM.out, H.less (by repeat (first | exact .slnil | refine .cons_cons _ ?_ | refine .cons _ ?_))⟩
          · have hde : (d == 1) = false := beq_eq_false_iff_ne.2 hd0
            go_wp2_with fail
            go_ret
            exact ⟨_, qs, rfl, HM.out, H⟩
end Go.Proofs.YtedbpmckgiifpaaGreat
