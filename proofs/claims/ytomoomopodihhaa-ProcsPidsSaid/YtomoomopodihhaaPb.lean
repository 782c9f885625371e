/-
  Tasks; number, may, the reference's May.
-/
import Derived.Test.YtomoomopodihhaaPa
namespace Go.Proofs.Ytomoomopodihhaa
open Go.RowKit Go.Maps

/-- A task, as it lies in memory: its cores behind the slice cv. -/
structure TaskD where
  pid : Int
  job : Int
  epoch : Int
  step : Int
  rank : Int
  cv : Value
  ns : List Int
  state : Int
  code : Int

def TaskD.cells (x : TaskD) : List Value := [.int .i64 x.pid, .int .i64 x.job, .int .i64 x.epoch, .int .i64 x.step, .int .i64 x.rank, x.cv, .int .i64 x.state, .int .i64 x.code]
def TaskD.val (x : TaskD) : Value := .agg #[.int .i64 x.pid, .int .i64 x.job, .int .i64 x.epoch, .int .i64 x.step, .int .i64 x.rank, x.cv, .int .i64 x.state, .int .i64 x.code]
theorem TaskD.cells_len (x : TaskD) : x.cells.length = 8 := rfl

/-- Its cores can be read. -/
structure CoresOk (W : World) (cv : Value) (ns : List Int) : Prop where
  ints : IntsV W cv ns
  cap : ns.length ≤ capV cv
  nil : ∀ n c, cv = .slice none n c → c = 0
  le : ns.length ≤ 100000

theorem CoresOk.fr {S : Nat → Prop} {W W' : World} {cv : Value} {ns : List Int} (h : CoresOk W cv ns) (hf : Fr S W W') (hs : ∀ g, cv.ownBlock = some g → ¬ S g) : CoresOk W' cv ns := ⟨h.ints.fr hf hs, h.cap, h.nil, h.le⟩
theorem CoresOk.fr0 {W W' : World} {cv : Value} {ns : List Int} (h : CoresOk W cv ns) (hf : Fr (fun _ => False) W W') : CoresOk W' cv ns := ⟨h.ints.fr0 hf, h.cap, h.nil, h.le⟩

def mayB (n : Int) : Bool := decide (0 ≤ n ∧ n ≤ 1099511627776)
def mayT (x : TaskD) : Bool := mayB x.job && (mayB x.epoch && (mayB x.step && (mayB x.rank && (decide ((ofM x.ns).2 = 0) && decide (0 < x.ns.length)))))

set_option maxHeartbeats 400000 in
theorem number69_any (n : Int) (w : World) : Calls Try.prog 69 #[.int .i64 n] w fun e w' => e = .returned (.bool (mayB n)) ∧ w = w' := by
  by_cases h1 : 0 ≤ n
  · by_cases h2 : n ≤ 1099511627776
    · have e : mayB n = true := decide_eq_true ⟨h1, h2⟩
      rw [e]
      go_enter Try.func69, Try.ntmps69
      go_wp2
      go_ret
      exact ⟨rfl, rfl⟩
    · have e : mayB n = false := decide_eq_false (fun h => h2 h.2)
      rw [e]
      go_enter Try.func69, Try.ntmps69
      go_wp2
      go_ret
      exact ⟨rfl, rfl⟩
  · have e : mayB n = false := decide_eq_false (fun h => h1 h.1)
    rw [e]
    go_enter Try.func69, Try.ntmps69
    go_wp2
    go_ret
    exact ⟨rfl, rfl⟩

set_option maxHeartbeats 400000 in
theorem number75_any (n : Int) (w : World) : Calls Try.prog 75 #[.int .i64 n] w fun e w' => e = .returned (.bool (mayB n)) ∧ w = w' := by
  by_cases h1 : 0 ≤ n
  · by_cases h2 : n ≤ 1099511627776
    · have e : mayB n = true := decide_eq_true ⟨h1, h2⟩
      rw [e]
      go_enter Try.func75, Try.ntmps75
      go_wp2
      go_ret
      exact ⟨rfl, rfl⟩
    · have e : mayB n = false := decide_eq_false (fun h => h2 h.2)
      rw [e]
      go_enter Try.func75, Try.ntmps75
      go_wp2
      go_ret
      exact ⟨rfl, rfl⟩
  · have e : mayB n = false := decide_eq_false (fun h => h1 h.1)
    rw [e]
    go_enter Try.func75, Try.ntmps75
    go_wp2
    go_ret
    exact ⟨rfl, rfl⟩

set_option maxRecDepth 20000 in
set_option maxHeartbeats 4000000 in
theorem may57_any (w : World) (x : TaskD) (h : CoresOk w x.cv x.ns) : Calls Try.prog 57 #[x.val] w fun e w' => e = .returned (.bool (mayT x)) ∧ Fr (fun _ => False) w w' := by
  unfold mayT
  obtain ⟨pid, job, epoch, step, rank, cv, ns, state, code⟩ := x
  simp only [TaskD.val] at *
  have HB := Lib.hid (Blk.new w 61 #[.int .i64 pid, .int .i64 job, .int .i64 epoch, .int .i64 step, .int .i64 rank, cv, .int .i64 state, .int .i64 code])
  have HF := Lib.hid ((Fr.refl (fun _ => False) w).alloc (.cells #[.int .i64 pid, .int .i64 job, .int .i64 epoch, .int .i64 step, .int .i64 rank, cv, .int .i64 state, .int .i64 code] 61))
  have hco := h.fr0 HF.out
  obtain ⟨A, cap, rfl⟩ := h.ints.sh
  have hle := h.le
  have hof := of_any _ _ ns hco.ints (by unfold maxLen; omega)
  have n1 := fun W => number69_any job W
  have n2 := fun W => number69_any epoch W
  have n3 := fun W => number69_any step W
  have n4 := fun W => number69_any rank W
  generalize mayB job = b1 at *
  generalize mayB epoch = b2 at *
  generalize mayB step = b3 at *
  generalize mayB rank = b4 at *
  generalize ofM ns = oo at *
  obtain ⟨M, n⟩ := oo
  simp only [valM, Ytomoomopodihhaa.cellsM] at hof
  have HOF := Lib.hid hof
  have N1 := Lib.hid n1
  have N2 := Lib.hid n2
  have N3 := Lib.hid n3
  have N4 := Lib.hid n4
  clear hof n1 n2 n3 n4 hco h
  cases b1 with
  | false =>
    go_enter Try.func57, Try.ntmps57
    go_wp2_with fail
    refine HOF.out.mono ?_
    rintro e w2 ⟨rfl, hf2⟩
    have HFx := Lib.hid ((HF.out.then hf2).alloc (.cells #[.int .u64 (wordM M 0 : Nat), .int .u64 (wordM M 1 : Nat), .int .u64 (wordM M 2 : Nat), .int .u64 (wordM M 3 : Nat)] 103))
    have hb3 := (HB.out.fr hf2 (fun h => h)).alloc (.cells #[.int .u64 (wordM M 0 : Nat), .int .u64 (wordM M 1 : Nat), .int .u64 (wordM M 2 : Nat), .int .u64 (wordM M 3 : Nat)] 103)
    have y := fun i => hb3.cell i
    clear hf2 hb3
    go_wp2_with fail
    refine (N1.out _).mono ?_
    rintro e w1 ⟨rfl, rfl⟩
    go_wp2_with fail
    go_ret
    exact ⟨by simp_all, HFx.out⟩
  | true =>
    cases b2 with
    | false =>
      go_enter Try.func57, Try.ntmps57
      go_wp2_with fail
      refine HOF.out.mono ?_
      rintro e w2 ⟨rfl, hf2⟩
      have HFx := Lib.hid ((HF.out.then hf2).alloc (.cells #[.int .u64 (wordM M 0 : Nat), .int .u64 (wordM M 1 : Nat), .int .u64 (wordM M 2 : Nat), .int .u64 (wordM M 3 : Nat)] 103))
      have hb3 := (HB.out.fr hf2 (fun h => h)).alloc (.cells #[.int .u64 (wordM M 0 : Nat), .int .u64 (wordM M 1 : Nat), .int .u64 (wordM M 2 : Nat), .int .u64 (wordM M 3 : Nat)] 103)
      have y := fun i => hb3.cell i
      clear hf2 hb3
      go_wp2_with fail
      refine (N1.out _).mono ?_
      rintro e w1 ⟨rfl, rfl⟩
      go_wp2_with fail
      refine (N2.out _).mono ?_
      rintro e w1 ⟨rfl, rfl⟩
      go_wp2_with fail
      go_ret
      exact ⟨by simp_all, HFx.out⟩
    | true =>
      cases b3 with
      | false =>
        go_enter Try.func57, Try.ntmps57
        go_wp2_with fail
        refine HOF.out.mono ?_
        rintro e w2 ⟨rfl, hf2⟩
        have HFx := Lib.hid ((HF.out.then hf2).alloc (.cells #[.int .u64 (wordM M 0 : Nat), .int .u64 (wordM M 1 : Nat), .int .u64 (wordM M 2 : Nat), .int .u64 (wordM M 3 : Nat)] 103))
        have hb3 := (HB.out.fr hf2 (fun h => h)).alloc (.cells #[.int .u64 (wordM M 0 : Nat), .int .u64 (wordM M 1 : Nat), .int .u64 (wordM M 2 : Nat), .int .u64 (wordM M 3 : Nat)] 103)
        have y := fun i => hb3.cell i
        clear hf2 hb3
        go_wp2_with fail
        refine (N1.out _).mono ?_
        rintro e w1 ⟨rfl, rfl⟩
        go_wp2_with fail
        refine (N2.out _).mono ?_
        rintro e w1 ⟨rfl, rfl⟩
        go_wp2_with fail
        refine (N3.out _).mono ?_
        rintro e w1 ⟨rfl, rfl⟩
        go_wp2_with fail
        go_ret
        exact ⟨by simp_all, HFx.out⟩
      | true =>
        cases b4 with
        | false =>
          go_enter Try.func57, Try.ntmps57
          go_wp2_with fail
          refine HOF.out.mono ?_
          rintro e w2 ⟨rfl, hf2⟩
          have HFx := Lib.hid ((HF.out.then hf2).alloc (.cells #[.int .u64 (wordM M 0 : Nat), .int .u64 (wordM M 1 : Nat), .int .u64 (wordM M 2 : Nat), .int .u64 (wordM M 3 : Nat)] 103))
          have hb3 := (HB.out.fr hf2 (fun h => h)).alloc (.cells #[.int .u64 (wordM M 0 : Nat), .int .u64 (wordM M 1 : Nat), .int .u64 (wordM M 2 : Nat), .int .u64 (wordM M 3 : Nat)] 103)
          have y := fun i => hb3.cell i
          clear hf2 hb3
          go_wp2_with fail
          refine (N1.out _).mono ?_
          rintro e w1 ⟨rfl, rfl⟩
          go_wp2_with fail
          refine (N2.out _).mono ?_
          rintro e w1 ⟨rfl, rfl⟩
          go_wp2_with fail
          refine (N3.out _).mono ?_
          rintro e w1 ⟨rfl, rfl⟩
          go_wp2_with fail
          refine (N4.out _).mono ?_
          rintro e w1 ⟨rfl, rfl⟩
          go_wp2_with fail
          go_ret
          exact ⟨by simp_all, HFx.out⟩
        | true =>
          by_cases hn0 : n = 0
          · subst hn0
            by_cases hl0 : 0 < ns.length
            · have hl1 : decide (0 < ns.length) = true := decide_eq_true hl0
              go_enter Try.func57, Try.ntmps57
              go_wp2_with fail
              refine HOF.out.mono ?_
              rintro e w2 ⟨rfl, hf2⟩
              have HFx := Lib.hid ((HF.out.then hf2).alloc (.cells #[.int .u64 (wordM M 0 : Nat), .int .u64 (wordM M 1 : Nat), .int .u64 (wordM M 2 : Nat), .int .u64 (wordM M 3 : Nat)] 103))
              have hb3 := (HB.out.fr hf2 (fun h => h)).alloc (.cells #[.int .u64 (wordM M 0 : Nat), .int .u64 (wordM M 1 : Nat), .int .u64 (wordM M 2 : Nat), .int .u64 (wordM M 3 : Nat)] 103)
              have y := fun i => hb3.cell i
              clear hf2 hb3
              go_wp2_with fail
              refine (N1.out _).mono ?_
              rintro e w1 ⟨rfl, rfl⟩
              go_wp2_with fail
              refine (N2.out _).mono ?_
              rintro e w1 ⟨rfl, rfl⟩
              go_wp2_with fail
              refine (N3.out _).mono ?_
              rintro e w1 ⟨rfl, rfl⟩
              go_wp2_with fail
              refine (N4.out _).mono ?_
              rintro e w1 ⟨rfl, rfl⟩
              go_wp2_with fail
              go_ret
              exact ⟨by simp_all, HFx.out⟩
            · have hl1 : decide (0 < ns.length) = false := decide_eq_false hl0
              go_enter Try.func57, Try.ntmps57
              go_wp2_with fail
              refine HOF.out.mono ?_
              rintro e w2 ⟨rfl, hf2⟩
              have HFx := Lib.hid ((HF.out.then hf2).alloc (.cells #[.int .u64 (wordM M 0 : Nat), .int .u64 (wordM M 1 : Nat), .int .u64 (wordM M 2 : Nat), .int .u64 (wordM M 3 : Nat)] 103))
              have hb3 := (HB.out.fr hf2 (fun h => h)).alloc (.cells #[.int .u64 (wordM M 0 : Nat), .int .u64 (wordM M 1 : Nat), .int .u64 (wordM M 2 : Nat), .int .u64 (wordM M 3 : Nat)] 103)
              have y := fun i => hb3.cell i
              clear hf2 hb3
              go_wp2_with fail
              refine (N1.out _).mono ?_
              rintro e w1 ⟨rfl, rfl⟩
              go_wp2_with fail
              refine (N2.out _).mono ?_
              rintro e w1 ⟨rfl, rfl⟩
              go_wp2_with fail
              refine (N3.out _).mono ?_
              rintro e w1 ⟨rfl, rfl⟩
              go_wp2_with fail
              refine (N4.out _).mono ?_
              rintro e w1 ⟨rfl, rfl⟩
              go_wp2_with fail
              go_ret
              exact ⟨by simp_all, HFx.out⟩
          · have hn1 : (n == 0) = false := by simpa using hn0
            go_enter Try.func57, Try.ntmps57
            go_wp2_with fail
            refine HOF.out.mono ?_
            rintro e w2 ⟨rfl, hf2⟩
            have HFx := Lib.hid ((HF.out.then hf2).alloc (.cells #[.int .u64 (wordM M 0 : Nat), .int .u64 (wordM M 1 : Nat), .int .u64 (wordM M 2 : Nat), .int .u64 (wordM M 3 : Nat)] 103))
            have hb3 := (HB.out.fr hf2 (fun h => h)).alloc (.cells #[.int .u64 (wordM M 0 : Nat), .int .u64 (wordM M 1 : Nat), .int .u64 (wordM M 2 : Nat), .int .u64 (wordM M 3 : Nat)] 103)
            have y := fun i => hb3.cell i
            clear hf2 hb3
            go_wp2_with fail
            refine (N1.out _).mono ?_
            rintro e w1 ⟨rfl, rfl⟩
            go_wp2_with fail
            refine (N2.out _).mono ?_
            rintro e w1 ⟨rfl, rfl⟩
            go_wp2_with fail
            refine (N3.out _).mono ?_
            rintro e w1 ⟨rfl, rfl⟩
            go_wp2_with fail
            refine (N4.out _).mono ?_
            rintro e w1 ⟨rfl, rfl⟩
            go_wp2_with fail
            go_ret
            exact ⟨by simp_all, HFx.out⟩

set_option maxRecDepth 20000 in
set_option maxHeartbeats 4000000 in
theorem may65_any (w : World) (x : TaskD) (h : CoresOk w x.cv x.ns) : Calls Try.prog 65 #[x.val] w fun e w' => ∃ b, e = .returned (.bool b) ∧ Fr (fun _ => False) w w' := by
  obtain ⟨pid, job, epoch, step, rank, cv, ns, state, code⟩ := x
  simp only [TaskD.val] at *
  have HB := Lib.hid (Blk.new w 61 #[.int .i64 pid, .int .i64 job, .int .i64 epoch, .int .i64 step, .int .i64 rank, cv, .int .i64 state, .int .i64 code])
  have HF := Lib.hid ((Fr.refl (fun _ => False) w).alloc (.cells #[.int .i64 pid, .int .i64 job, .int .i64 epoch, .int .i64 step, .int .i64 rank, cv, .int .i64 state, .int .i64 code] 61))
  have hco := h.fr0 HF.out
  obtain ⟨A, cap, rfl⟩ := h.ints.sh
  have hle := h.le
  have hof := rof74_any _ _ ns hco.ints (by unfold maxLen; omega) hco.cap
  have n1 := fun W => number75_any job W
  have n2 := fun W => number75_any epoch W
  have n3 := fun W => number75_any step W
  have n4 := fun W => number75_any rank W
  generalize mayB job = b1 at *
  generalize mayB epoch = b2 at *
  generalize mayB step = b3 at *
  generalize mayB rank = b4 at *
  have HOF := Lib.hid hof
  have N1 := Lib.hid n1
  have N2 := Lib.hid n2
  have N3 := Lib.hid n3
  have N4 := Lib.hid n4
  clear hof n1 n2 n3 n4 hco h
  cases b1 with
  | false =>
    go_enter Try.func65, Try.ntmps65
    go_wp2_with fail
    refine HOF.out.mono ?_
    rintro e w2 ⟨M, n, rfl, hf2⟩
    simp only [valM, Ytomoomopodihhaa.cellsM]
    have HFx := Lib.hid ((HF.out.then hf2).alloc (.cells #[.int .u64 (wordM M 0 : Nat), .int .u64 (wordM M 1 : Nat), .int .u64 (wordM M 2 : Nat), .int .u64 (wordM M 3 : Nat)] 110))
    have hb3 := (HB.out.fr hf2 (fun h => h)).alloc (.cells #[.int .u64 (wordM M 0 : Nat), .int .u64 (wordM M 1 : Nat), .int .u64 (wordM M 2 : Nat), .int .u64 (wordM M 3 : Nat)] 110)
    have y := fun i => hb3.cell i
    clear hf2 hb3
    go_wp2_with fail
    refine (N1.out _).mono ?_
    rintro e w1 ⟨rfl, rfl⟩
    go_wp2_with fail
    go_ret
    exact ⟨_, rfl, HFx.out⟩
  | true =>
    cases b2 with
    | false =>
      go_enter Try.func65, Try.ntmps65
      go_wp2_with fail
      refine HOF.out.mono ?_
      rintro e w2 ⟨M, n, rfl, hf2⟩
      simp only [valM, Ytomoomopodihhaa.cellsM]
      have HFx := Lib.hid ((HF.out.then hf2).alloc (.cells #[.int .u64 (wordM M 0 : Nat), .int .u64 (wordM M 1 : Nat), .int .u64 (wordM M 2 : Nat), .int .u64 (wordM M 3 : Nat)] 110))
      have hb3 := (HB.out.fr hf2 (fun h => h)).alloc (.cells #[.int .u64 (wordM M 0 : Nat), .int .u64 (wordM M 1 : Nat), .int .u64 (wordM M 2 : Nat), .int .u64 (wordM M 3 : Nat)] 110)
      have y := fun i => hb3.cell i
      clear hf2 hb3
      go_wp2_with fail
      refine (N1.out _).mono ?_
      rintro e w1 ⟨rfl, rfl⟩
      go_wp2_with fail
      refine (N2.out _).mono ?_
      rintro e w1 ⟨rfl, rfl⟩
      go_wp2_with fail
      go_ret
      exact ⟨_, rfl, HFx.out⟩
    | true =>
      cases b3 with
      | false =>
        go_enter Try.func65, Try.ntmps65
        go_wp2_with fail
        refine HOF.out.mono ?_
        rintro e w2 ⟨M, n, rfl, hf2⟩
        simp only [valM, Ytomoomopodihhaa.cellsM]
        have HFx := Lib.hid ((HF.out.then hf2).alloc (.cells #[.int .u64 (wordM M 0 : Nat), .int .u64 (wordM M 1 : Nat), .int .u64 (wordM M 2 : Nat), .int .u64 (wordM M 3 : Nat)] 110))
        have hb3 := (HB.out.fr hf2 (fun h => h)).alloc (.cells #[.int .u64 (wordM M 0 : Nat), .int .u64 (wordM M 1 : Nat), .int .u64 (wordM M 2 : Nat), .int .u64 (wordM M 3 : Nat)] 110)
        have y := fun i => hb3.cell i
        clear hf2 hb3
        go_wp2_with fail
        refine (N1.out _).mono ?_
        rintro e w1 ⟨rfl, rfl⟩
        go_wp2_with fail
        refine (N2.out _).mono ?_
        rintro e w1 ⟨rfl, rfl⟩
        go_wp2_with fail
        refine (N3.out _).mono ?_
        rintro e w1 ⟨rfl, rfl⟩
        go_wp2_with fail
        go_ret
        exact ⟨_, rfl, HFx.out⟩
      | true =>
        cases b4 with
        | false =>
          go_enter Try.func65, Try.ntmps65
          go_wp2_with fail
          refine HOF.out.mono ?_
          rintro e w2 ⟨M, n, rfl, hf2⟩
          simp only [valM, Ytomoomopodihhaa.cellsM]
          have HFx := Lib.hid ((HF.out.then hf2).alloc (.cells #[.int .u64 (wordM M 0 : Nat), .int .u64 (wordM M 1 : Nat), .int .u64 (wordM M 2 : Nat), .int .u64 (wordM M 3 : Nat)] 110))
          have hb3 := (HB.out.fr hf2 (fun h => h)).alloc (.cells #[.int .u64 (wordM M 0 : Nat), .int .u64 (wordM M 1 : Nat), .int .u64 (wordM M 2 : Nat), .int .u64 (wordM M 3 : Nat)] 110)
          have y := fun i => hb3.cell i
          clear hf2 hb3
          go_wp2_with fail
          refine (N1.out _).mono ?_
          rintro e w1 ⟨rfl, rfl⟩
          go_wp2_with fail
          refine (N2.out _).mono ?_
          rintro e w1 ⟨rfl, rfl⟩
          go_wp2_with fail
          refine (N3.out _).mono ?_
          rintro e w1 ⟨rfl, rfl⟩
          go_wp2_with fail
          refine (N4.out _).mono ?_
          rintro e w1 ⟨rfl, rfl⟩
          go_wp2_with fail
          go_ret
          exact ⟨_, rfl, HFx.out⟩
        | true =>
          go_enter Try.func65, Try.ntmps65
          go_wp2_with fail
          refine HOF.out.mono ?_
          rintro e w2 ⟨M, n, rfl, hf2⟩
          simp only [valM, Ytomoomopodihhaa.cellsM]
          have HFx := Lib.hid ((HF.out.then hf2).alloc (.cells #[.int .u64 (wordM M 0 : Nat), .int .u64 (wordM M 1 : Nat), .int .u64 (wordM M 2 : Nat), .int .u64 (wordM M 3 : Nat)] 110))
          have hb3 := (HB.out.fr hf2 (fun h => h)).alloc (.cells #[.int .u64 (wordM M 0 : Nat), .int .u64 (wordM M 1 : Nat), .int .u64 (wordM M 2 : Nat), .int .u64 (wordM M 3 : Nat)] 110)
          have y := fun i => hb3.cell i
          clear hf2 hb3
          by_cases hn0 : n = 0
          · subst hn0
            go_wp2_with fail
            refine (N1.out _).mono ?_
            rintro e w1 ⟨rfl, rfl⟩
            go_wp2_with fail
            refine (N2.out _).mono ?_
            rintro e w1 ⟨rfl, rfl⟩
            go_wp2_with fail
            refine (N3.out _).mono ?_
            rintro e w1 ⟨rfl, rfl⟩
            go_wp2_with fail
            refine (N4.out _).mono ?_
            rintro e w1 ⟨rfl, rfl⟩
            go_wp2_with fail
            go_ret
            exact ⟨_, rfl, HFx.out⟩
          · have hn1 : (n == 0) = false := by simpa using hn0
            go_wp2_with fail
            refine (N1.out _).mono ?_
            rintro e w1 ⟨rfl, rfl⟩
            go_wp2_with fail
            refine (N2.out _).mono ?_
            rintro e w1 ⟨rfl, rfl⟩
            go_wp2_with fail
            refine (N3.out _).mono ?_
            rintro e w1 ⟨rfl, rfl⟩
            go_wp2_with fail
            refine (N4.out _).mono ?_
            rintro e w1 ⟨rfl, rfl⟩
            go_wp2_with fail
            go_ret
            exact ⟨_, rfl, HFx.out⟩

end Go.Proofs.Ytomoomopodihhaa
