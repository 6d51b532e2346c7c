/-
  DiskCrashes: the walk: for every room, every list of calls and every list of numbers the law returns true, and changes nothing that was there.
-/
import Derived.Test.YtpkpinkjjknbdaaDiskCopies
namespace Go.Proofs.Ytpkpinkjjknbdaa
open Go.RowKit
set_option linter.unusedVariables false

theorem info_call : (Try.prog.info? 45).map (fun i => (i.zero, i.size, i.bytes)) = some (some (.agg #[.int .i64 0, .int .i64 0, .int .i64 0, .slice none 0 0, .slice none 0 0]), 5, 72) := by kernel_rfl

def callCells (c : CallD) : List Value := [.int .i64 c.kind, .int .i64 c.file, .int .i64 c.n, c.b, c.keep]
def rowCells (cs : List CallD) : List Value := cs.flatMap callCells
theorem rowCells_length (cs : List CallD) : (rowCells cs).length = cs.length * 5 := by
  induction cs with
  | nil => rfl
  | cons c cs ih => simp only [rowCells, List.flatMap_cons, List.length_append, List.length_cons] at ih ⊢; rw [ih]; simp [callCells]; omega
theorem rowCells_get (cs : List CallD) (i m : Nat) (c : CallD) (h : cs[i]? = some c) (hm : m < 5) : (rowCells cs)[i * 5 + m]? = (callCells c)[m]? := by
  induction cs generalizing i with
  | nil => simp at h
  | cons d cs ih =>
    simp only [rowCells, List.flatMap_cons]
    cases i with
    | zero =>
      simp at h; subst h
      rw [List.getElem?_append_left (by simp [callCells]; omega), Nat.zero_mul, Nat.zero_add]
    | succ i =>
      rw [List.getElem?_append_right (by simp [callCells]; omega)]
      have := ih i (by simpa using h)
      rw [show (i + 1) * 5 + m - (callCells d).length = i * 5 + m by simp [callCells]; omega]
      exact this
theorem rowCells_of (cs : List CallD) (j : Nat) (u : Value) (h : (rowCells cs)[j]? = some u) : ∃ i m c, j = i * 5 + m ∧ m < 5 ∧ cs[i]? = some c ∧ (callCells c)[m]? = some u := by
  have hj : j < cs.length * 5 := by have := (List.getElem?_eq_some_iff.1 h).1; rwa [rowCells_length] at this
  have hi : j / 5 < cs.length := by omega
  have hd : j = j / 5 * 5 + j % 5 := by omega
  refine ⟨j / 5, j % 5, cs[j / 5], hd, by omega, List.getElem?_eq_getElem hi, ?_⟩
  rw [hd, rowCells_get cs (j / 5) (j % 5) _ (List.getElem?_eq_getElem hi) (by omega)] at h
  exact h
theorem call_cells_one (cs : List CallD) (w : World) (h : ∀ c ∈ cs, CallOk w c) : ∀ u ∈ rowCells cs, u.oneCell' = true := by
  intro u hu
  simp only [rowCells, List.mem_flatMap] at hu
  obtain ⟨c, hc, hu⟩ := hu
  obtain ⟨⟨A, cap, hb, _⟩, _, ⟨A2, cap2, hk, _⟩, _⟩ := h c hc
  simp only [callCells, List.mem_cons, List.not_mem_nil, or_false] at hu
  rcases hu with rfl | rfl | rfl | rfl | rfl
  · rfl
  · rfl
  · rfl
  · rw [hb]; rfl
  · rw [hk]; rfl

/-- The first n calls, as a source of an append. -/
theorem rd_calls {w : World} {A : Option Addr} {cs : List CallD} {n cap : Nat} (hn : n ≤ cs.length) (hc : cs.length ≤ cap) (hnil : A = none → cs.length = 0 ∧ cap = 0)
    (hat : 0 < cs.length → ∃ g o, A = some ⟨g, o, none⟩ ∧ ∀ i c, cs[i]? = some c → CallAt w g (o + i * 5) c) : Rd w 5 (.slice A n cap) n (rowCells (cs.take n)) := by
  refine ⟨A, cap, rfl, by omega, by rw [rowCells_length, List.length_take]; omega, fun h => ⟨by have := (hnil h).1; omega, (hnil h).2⟩, fun ad hA j u hj => ?_⟩
  obtain ⟨i, m, c, rfl, hm, hci, hu⟩ := rowCells_of _ _ _ hj
  have hil : i < (cs.take n).length := (List.getElem?_eq_some_iff.1 hci).1
  rw [List.length_take] at hil
  have hci' : cs[i]? = some c := by rw [List.getElem?_take] at hci; split at hci; exact hci; cases hci
  obtain ⟨g, o, rfl, hall⟩ := hat (by omega)
  cases hA
  obtain ⟨c0, c1, c2, c3, c4, _⟩ := hall i c hci'
  rw [add_lit0]
  rcases m with _ | _ | _ | _ | _ | m
  · simp only [callCells, List.getElem?_cons_zero, Option.some.injEq] at hu; subst hu; exact c0
  · simp only [callCells, List.getElem?_cons_zero, List.getElem?_cons_succ, Option.some.injEq] at hu; subst hu; exact c1
  · simp only [callCells, List.getElem?_cons_zero, List.getElem?_cons_succ, Option.some.injEq] at hu; subst hu; exact c2
  · simp only [callCells, List.getElem?_cons_zero, List.getElem?_cons_succ, Option.some.injEq] at hu; subst hu; exact c3
  · simp only [callCells, List.getElem?_cons_zero, List.getElem?_cons_succ, Option.some.injEq] at hu; subst hu; exact c4
  · omega

/-- A block that holds the calls cs. -/
def CallBlk (w : World) (g : Nat) (cs : List CallD) : Prop := ∃ cur, Blk w g 45 cur ∧ ∀ (i m : Nat) (c : CallD), cs[i]? = some c → m < 5 → cur[i * 5 + m]? = (callCells c)[m]?
theorem callBlk_of {w : World} {base n : Nat} {v : Value} {cs : List CallD} (h : w.ownsRow base 45 5 v n (rowCells cs)) (hn : 0 < n) (hl : cs.length = n) : ∃ g cap, v = .slice (some ⟨g, 0, none⟩) n cap ∧ n ≤ cap ∧ cap ≤ maxLen ∧ base ≤ g ∧ CallBlk w g cs := by
  rcases h.2 with ⟨h3, h4⟩ | ⟨g, cap, cur, h3, hb, hh, hnc, hcm, hs, ht⟩
  · omega
  · refine ⟨g, cap, h3, hnc, hcm, hb, cur, hh, fun i m c hc hm => ?_⟩
    have hi : i < cs.length := (List.getElem?_eq_some_iff.1 hc).1
    rw [← rowCells_get cs i m c hc hm, ← ht, List.getElem?_take, if_pos (by omega)]
    simp
theorem blk_not_dk {w : World} {base B q : Nat} {t : TypeId} {cs : Array Value} {fs : List File} {a : Ab} (h : Blk w q t cs) (hi : Is w base B fs a) (h1 : t ≠ 65) (h2 : 5 ≠ t) : ¬ DK B fs q := by
  rintro (rfl | ⟨f, hf, he⟩)
  · exact Blk.ne_ h hi.1.blk h1 rfl
  · exact own_blk_ne (hi.1.files f hf).1 h h2 he
theorem CallBlk.dk {w w' : World} {base B g : Nat} {cs : List CallD} {fs : List File} {a : Ab} (h : CallBlk w g cs) (hi : Is w base B fs a) (hk : Kept (DK B fs) w w') : CallBlk w' g cs := by
  obtain ⟨cur, hb, hc⟩ := h
  exact ⟨cur, hb.kept hk (blk_not_dk hb hi (by decide) (by decide)), hc⟩
theorem CallBlk.kept0 {w w' : World} {g : Nat} {cs : List CallD} (h : CallBlk w g cs) (hk : Kept Kno w w') : CallBlk w' g cs := by
  obtain ⟨cur, hb, hc⟩ := h
  exact ⟨cur, hb.kept hk (fun h => h), hc⟩

/-- How many bytes of a file survive a crash. -/
def Ab.syn (a : Ab) (i : Nat) : Nat := (a.file i).2
theorem syn_set (room plan : Int) (off : Bool) (fs : List (List UInt8 × Nat)) (i j : Nat) (x : List UInt8 × Nat) : (⟨room, fs.set i x, off, plan⟩ : Ab).syn j = if i = j ∧ j < fs.length then x.2 else (⟨room, fs, off, plan⟩ : Ab).syn j := by
  simp only [Ab.syn, Ab.file, List.getD, List.getElem?_set]
  by_cases h : i = j
  · subst h
    by_cases h2 : i < fs.length
    · simp [h2]
    · simp [h2]
  · simp [h]
theorem gate_syn_same (a : Ab) (t : Bool) (i : Nat) (x : List UInt8 × Nat) (hx : x.2 = a.syn i) (j : Nat) : (gateOf a t i x).1.syn j = a.syn j := by
  have key : ∀ (off : Bool) (plan : Int), (⟨a.room, a.fs.set i x, off, plan⟩ : Ab).syn j = a.syn j := by
    intro off plan
    rw [syn_set]
    by_cases h : i = j ∧ j < a.fs.length
    · rw [if_pos h, hx, h.1]
    · rw [if_neg h]; rfl
  unfold gateOf
  split
  · exact key _ _
  · split
    · cases t with
      | true => exact key _ _
      | false => rfl
    · exact key _ _
theorem gate_off (a : Ab) (i : Nat) (x : List UInt8 × Nat) (h : (gateOf a false i x).2 ≠ 0) (j : Nat) : (gateOf a false i x).1.syn j = a.syn j := by
  unfold gateOf at h ⊢
  split
  · rename_i h1; rw [if_pos h1] at h; exact absurd rfl h
  · split
    · rfl
    · rename_i h1 h2; rw [if_neg h1, if_neg h2] at h; exact absurd rfl h
theorem gate_ok (a : Ab) (i : Nat) (x : List UInt8 × Nat) (h : (gateOf a false i x).2 = 0) : (gateOf a false i x).1.fs = a.fs.set i x := by
  unfold gateOf at h ⊢
  split
  · rfl
  · split
    · rename_i h1 h2; rw [if_neg h1, if_pos h2] at h; simp at h
    · rfl

/-- A call that does not sync: every file keeps what survives. -/
theorem play_syn (a : Ab) (c : CallD) (h6 : c.kind ≠ 6) (h : ¬ ((a.play c).2 = 0 ∧ 2 ≤ c.kind ∧ c.kind ≤ 4)) (j : Nat) : (a.play c).1.syn j = a.syn j := by
  unfold Ab.play at h ⊢
  by_cases k1 : c.kind = 1
  · rw [if_pos k1]
    unfold Ab.append
    split
    · rfl
    · split
      · rfl
      · exact gate_syn_same a true c.file.toNat ((a.file c.file.toNat).1 ++ c.l.take 2000, (a.file c.file.toNat).2) rfl j
  · rw [if_neg k1] at h ⊢
    by_cases k2 : c.kind = 2
    · rw [if_pos k2] at h ⊢
      unfold Ab.trunc at h ⊢
      split
      · rfl
      · split
        · rfl
        · rename_i h1 h2
          rw [if_neg h1, if_neg h2] at h
          exact gate_off a _ _ (fun e => h ⟨e, by omega, by omega⟩) j
    · rw [if_neg k2] at h ⊢
      by_cases k3 : c.kind = 3
      · rw [if_pos k3] at h ⊢
        unfold Ab.replace at h ⊢
        split
        · rfl
        · split
          · rfl
          · rename_i h1 h2
            rw [if_neg h1, if_neg h2] at h
            exact gate_off a _ _ (fun e => h ⟨e, by omega, by omega⟩) j
      · rw [if_neg k3] at h ⊢
        by_cases k4 : c.kind = 4
        · rw [if_pos k4] at h ⊢
          unfold Ab.sync at h ⊢
          split
          · rfl
          · rename_i h1
            rw [if_neg h1] at h
            exact gate_off a _ _ (fun e => h ⟨e, by omega, by omega⟩) j
        · rw [if_neg k4] at h ⊢
          split
          · unfold Ab.fail; split <;> rfl
          · first | rfl | (rw [if_neg h6])
/-- A call that syncs: its file is a file, and all of it survives. -/
theorem play_synced (a : Ab) (c : CallD) (h0 : (a.play c).2 = 0) (h2 : 2 ≤ c.kind) (h4 : c.kind ≤ 4) : ∃ (i : Nat) (l : List UInt8), c.file = i ∧ i < 8 ∧ (a.play c).1.fs = a.fs.set i (l, l.length) := by
  unfold Ab.play at h0 ⊢
  have k1 : ¬ c.kind = 1 := by omega
  rw [if_neg k1] at h0 ⊢
  by_cases k2 : c.kind = 2
  · rw [if_pos k2] at h0 ⊢
    unfold Ab.trunc at h0 ⊢
    by_cases hc : checkOf a.off c.file ≠ 0
    · rw [if_pos hc] at h0; exact absurd h0 hc
    · rw [if_neg hc] at h0 ⊢
      obtain ⟨-, r1, r2⟩ := check_range hc
      by_cases hn : c.n < 0 ∨ ((a.file c.file.toNat).1.length : Int) < c.n
      · rw [if_pos hn] at h0; simp at h0
      · rw [if_neg hn] at h0 ⊢
        refine ⟨c.file.toNat, (a.file c.file.toNat).1.take c.n.toNat, by omega, by omega, ?_⟩
        rw [gate_ok _ _ _ h0, List.length_take, Nat.min_eq_left (by omega)]
  · rw [if_neg k2] at h0 ⊢
    by_cases k3 : c.kind = 3
    · rw [if_pos k3] at h0 ⊢
      unfold Ab.replace at h0 ⊢
      by_cases hc : checkOf a.off c.file ≠ 0
      · rw [if_pos hc] at h0; exact absurd h0 hc
      · rw [if_neg hc] at h0 ⊢
        obtain ⟨-, r1, r2⟩ := check_range hc
        by_cases hn : a.room - ((a.used : Int) - (a.file c.file.toNat).1.length) < (c.l.take 2000).length
        · rw [if_pos hn] at h0; simp at h0
        · rw [if_neg hn] at h0 ⊢
          exact ⟨c.file.toNat, c.l.take 2000, by omega, by omega, gate_ok _ _ _ h0⟩
    · have k4 : c.kind = 4 := by omega
      rw [if_neg k3, if_pos k4] at h0 ⊢
      unfold Ab.sync at h0 ⊢
      by_cases hc : checkOf a.off c.file ≠ 0
      · rw [if_pos hc] at h0; exact absurd h0 hc
      · rw [if_neg hc] at h0 ⊢
        obtain ⟨-, r1, r2⟩ := check_range hc
        exact ⟨c.file.toNat, (a.file c.file.toNat).1, by omega, by omega, gate_ok _ _ _ h0⟩
/-- A crash: each file is a beginning, with all that was to survive. -/
theorem play_crash (a : Ab) (c : CallD) (h6 : c.kind = 6) : a.play c = (a.crash c.ks, 0) := by
  simp [Ab.play, h6]
theorem crash_file (a : Ab) (ks : List Int) (hl : a.fs.length = 8) (hs : ∀ f ∈ a.fs, f.2 ≤ f.1.length ∧ f.1.length ≤ 16777216) (i : Nat) (hi : i < 8) (lw ln : List UInt8) (hw : a.ls[i]? = some lw) (hn : (a.crash ks).ls[i]? = some ln) :
    a.syn i ≤ ln.length ∧ ln.length ≤ lw.length ∧ ln = lw.take ln.length ∧ (a.crash ks).syn i = ln.length := by
  have hq : a.fs[i]? = some (a.fs[i]'(by omega)) := List.getElem?_eq_getElem _
  generalize a.fs[i]'(by omega) = f at hq
  obtain ⟨h1, _⟩ := hs f (List.mem_of_getElem? hq)
  have e1 : a.syn i = f.2 := by simp [Ab.syn, Ab.file, List.getD, hq]
  have e2 : lw = f.1 := by simp only [Ab.ls, List.getElem?_map, hq, Option.map_some, Option.some.injEq] at hw; exact hw.symm
  have e3 : (a.crash ks).fs[i]? = some (crashF f ks[i]?) := by
    show (crashTo 8 a.fs ks)[i]? = _
    rw [crashTo_at, hq]
    simp [hi]
  have e4 : ln = f.1.take (crashN f ks[i]?) := by simp only [Ab.ls, List.getElem?_map, e3, Option.map_some, Option.some.injEq, crashF] at hn; exact hn.symm
  have e5 : (a.crash ks).syn i = crashN f ks[i]? := by simp [Ab.syn, Ab.file, List.getD, e3, crashF]
  have h2 : f.2 ≤ crashN f ks[i]? ∧ crashN f ks[i]? ≤ f.1.length := by
    cases ks[i]? with
    | none => simp only [crashN]; omega
    | some x => simp only [crashN]; omega
  have e6 : ln.length = crashN f ks[i]? := by rw [e4, List.length_take]; omega
  refine ⟨by omega, by rw [e2]; omega, ?_, by omega⟩
  rw [e6, e2]; exact e4

def arr8 (ss : List Nat) : Array Value := (ss.map fun s : Nat => Value.int .i64 (s : Int)).toArray
theorem arr8_at (ss : List Nat) (i s : Nat) (h : ss[i]? = some s) : (arr8 ss)[i]? = some (.int .i64 (s : Int)) := by simp [arr8, h]
theorem arr8_set (ss : List Nat) (i s : Nat) : (arr8 ss).setIfInBounds i (.int .i64 (s : Int)) = arr8 (ss.set i s) := by
  unfold arr8
  rw [List.setIfInBounds_toArray, List.map_set]

def CrRel (w : World) (N gc qs : Nat) (ccs : List CallD) (d i : Value) (wr : World) : Prop :=
  ∃ (k B : Nat) (fs : List File) (a : Ab) (ss : List Nat), k ≤ N ∧ i = .int .i64 k ∧ d = .pointer (some ⟨B, 0, none⟩) ∧ Is wr w.heap.size B fs a ∧ Kept Kno w wr ∧ CallBlk wr gc ccs ∧ Blk wr qs 53 (arr8 ss) ∧ ss.length = 8 ∧
    (∀ i s : Nat, ss[i]? = some s → s ≤ a.syn i) ∧ (k = N → a.off = false)

def CrIn (w5 : World) (qs : Nat) (ss : List Nat) (now : List (List UInt8)) (i : Value) (wr : World) : Prop :=
  ∃ j : Nat, j ≤ 8 ∧ i = .int .i64 j ∧ Kept (Kone qs) w5 wr ∧ Blk wr qs 53 (arr8 ((now.map List.length).take j ++ ss.drop j))

theorem crin_step {w5 wr : World} {qs j q : Nat} {ss : List Nat} {now : List (List UInt8)} {ln : List UInt8} (hj : j < 8) (hn : now[j]? = some ln) (hs : ss.length = 8) (hl : now.length = 8) (hk : Kept (Kone qs) w5 wr) (hb : Blk wr qs 53 (arr8 ((now.map List.length).take j ++ ss.drop j))) :
    CrIn w5 qs ss now (.int .i64 ((j : Int) + 1)) ((wr.drewN q).setCell ⟨qs, j, none⟩ (.int .i64 (ln.length : Int))) := by
  refine ⟨j + 1, by omega, by go_num, (hk.drewN q).setIn (p := ⟨qs, j, none⟩) (Eq.refl qs) _, ?_⟩
  have h1 := (hb.drewN q).set_ j (.int .i64 (ln.length : Int))
  rw [arr8_set] at h1
  have e : ((now.map List.length).take j ++ ss.drop j).set j ln.length = (now.map List.length).take (j + 1) ++ ss.drop (j + 1) := by
    have hjl : ((now.map List.length).take j).length = j := by rw [List.length_take, List.length_map]; omega
    rw [List.set_append_right _ _ (by omega), hjl, Nat.sub_self]
    obtain ⟨s, hsj⟩ : ∃ s, ss.drop j = s :: ss.drop (j + 1) := ⟨ss[j], List.drop_eq_getElem_cons (by omega)⟩
    rw [hsj, List.set_cons_zero, List.take_add_one, List.getElem?_map, hn]
    simp
  rw [e] at h1
  exact h1

set_option maxRecDepth 100000 in
set_option maxHeartbeats 8000000 in
theorem crashes_walk (r : Int) (hr0 : 0 ≤ r) (hr1 : r ≤ 65535) (cv : Value) (cs : List CallD) (keep0 : Value) (ks0 : List Int) (w : World) (hin : CallsIn w cv cs) (hkeep0 : KeepIn w keep0 ks0) :
    Calls Try.prog 7 #[.int .u16 r, cv, keep0] w (RetNew (.bool true) w) := by
  obtain ⟨i0, hi0, hz0, hz1, hz2⟩ := info_parts info_call
  have HIN := Lib.hid hin
  obtain ⟨A, cap, rfl, hlc, hcm, hnil, hcells⟩ := hin
  have HC := Lib.hid hcells
  have m4 : cap ≤ 9223372036854775807 := by simp only [maxLen] at hcm; omega
  obtain ⟨n, hmin, q1, q2⟩ : ∃ m : Nat, (if (200 : Int) < (cs.length : Int) then (200 : Int) else (cs.length : Int)) = (m : Int) ∧ m ≤ cs.length ∧ m ≤ 200 := min_nat cs.length 200
  have q3 : n ≤ cap := by omega
  have q4 : (n : Int) ≤ (cap : Int) := by omega
  have q5 : (0 : Int) ≤ (n : Int) := by omega
  have ncs : cs.length ≤ 9223372036854775807 := by omega
  have HNIL := Lib.hid hnil
  clear hcells hnil hcm
  have hm0 : 0 ≤ r % 4001 := Int.emod_nonneg _ (by decide)
  have hm1 : r % 4001 ≤ 4000 := by have := Int.emod_lt_of_pos r (show (0 : Int) < 4001 by decide); omega
  have HK0 := Lib.hid hkeep0
  obtain ⟨Ak0, capk0, rfl, -⟩ := hkeep0
  have hrd := rd_calls q1 hlc HNIL.out HC.out
  have HRD := Lib.hid hrd
  have hlast : CallOk w ⟨6, 0, 0, .slice none 0 0, [], .slice Ak0 ks0.length capk0, ks0⟩ := ⟨⟨none, 0, rfl, Nat.le_refl _, rfl, fun _ => ⟨rfl, rfl⟩, fun ad h => by cases h⟩, by simp, HK0.out, by simp only; omega⟩
  have hallok : ∀ c ∈ cs.take n ++ [⟨6, 0, 0, .slice none 0 0, [], .slice Ak0 ks0.length capk0, ks0⟩], CallOk w c := by
    intro c hc
    rcases List.mem_append.1 hc with h | h
    · obtain ⟨i, hi, he⟩ := List.getElem_of_mem (List.mem_of_mem_take h)
      obtain ⟨g, o, -, hat⟩ := HC.out (by omega)
      exact (hat i c (by rw [List.getElem?_eq_getElem hi, he])).2.2.2.2.2
    · simp only [List.mem_singleton] at h; subst h; exact hlast
  have HALL := Lib.hid hallok
  have hone : ∀ u ∈ rowCells (cs.take n), u.oneCell' = true := call_cells_one _ w (fun c hc => hallok c (List.mem_append_left _ hc))
  have HONE := Lib.hid hone
  clear hrd hlast hallok hone
  go_enter Try.func7, Try.ntmps7
  go_wp2_with fail
  refine (made_any r _ hr0 hr1).mono ?_
  rintro e w1 ⟨rfl, hw1⟩
  have hk1 : Kept Kno w w1 := by rw [hw1]; exact (Kept.refl _ _).alloc _
  have hi1 : Is w1 w.heap.size w.heap.size (List.replicate 8 noFile) (ab0 (r % 4001)) := by rw [hw1]; exact is_new w _ _ (Nat.le_refl _) hm0 (by omega)
  have HI1 := Lib.hid hi1
  clear hw1 hi1
  generalize hR : r % 4001 = R at HI1 hm0 hm1
  have m1 : 0 + n ≤ maxLen := by simp only [maxLen]; omega
  have m2 : n + 1 ≤ maxLen := by simp only [maxLen]; omega
  go_upto_region 5 with (fail)
  have hzS : w1.heap.size < (w1.alloc (.cells #[Value.int .i64 0, Value.int .i64 0, Value.int .i64 0, Value.int .i64 0, Value.int .i64 0, Value.int .i64 0, Value.int .i64 0, Value.int .i64 0] 53)).heap.size := by simp
  have hkS : Kept Kno w (w1.alloc (.cells #[Value.int .i64 0, Value.int .i64 0, Value.int .i64 0, Value.int .i64 0, Value.int .i64 0, Value.int .i64 0, Value.int .i64 0, Value.int .i64 0] 53)) := hk1.alloc _
  have HIS := Lib.hid (HI1.out.kept0 ((Kept.refl Kno w1).alloc (.cells #[Value.int .i64 0, Value.int .i64 0, Value.int .i64 0, Value.int .i64 0, Value.int .i64 0, Value.int .i64 0, Value.int .i64 0, Value.int .i64 0] 53)))
  have HBS : Hid (Blk (w1.alloc (.cells #[Value.int .i64 0, Value.int .i64 0, Value.int .i64 0, Value.int .i64 0, Value.int .i64 0, Value.int .i64 0, Value.int .i64 0, Value.int .i64 0] 53)) w1.heap.size 53 (arr8 (List.replicate 8 0))) := Lib.hid (Blk.new w1 53 #[Value.int .i64 0, Value.int .i64 0, Value.int .i64 0, Value.int .i64 0, Value.int .i64 0, Value.int .i64 0, Value.int .i64 0, Value.int .i64 0])
  have hqS := hk1.size
  generalize (w1.alloc (.cells #[Value.int .i64 0, Value.int .i64 0, Value.int .i64 0, Value.int .i64 0, Value.int .i64 0, Value.int .i64 0, Value.int .i64 0, Value.int .i64 0] 53)) = wS at hkS HIS HBS hzS ⊢
  generalize w1.heap.size = qs at HBS hzS hqS ⊢
  have hrs : Rd wS 5 (.slice A n cap) n (rowCells (cs.take n)) := HRD.out.kept0 hkS
  have HRS := Lib.hid hrs
  clear hrs HRD HI1 hk1
  go_wp2_with (at_builtin; first
    | (refine wpList_append_rd _ rfl _ _ 42 rfl wS.heap.size 45 i0 _ 5 72 Try.underlying42 hi0 hz0 hz1 hz2 rfl (by decide) (.slice none 0 0) 0 [] rfl (World.ownsRow_nil _ _ _ _) _ n (rowCells (cs.take n)) rfl HRS.out HONE.out m1 (by omega) (Nat.le_refl _) ?_
       intro A2 cap2 w2 hown hg hat
       simp only [Nat.zero_add, List.nil_append] at hown hat
       have hk12 : Kept Kno wS w2 := (Kept.refl _ _).grown hg (fun k hk e => by cases e)
       have HO := Lib.hid hown
       clear hown hg hat)
    | (refine wpList_append_rd _ rfl _ _ 42 rfl wS.heap.size 45 i0 _ 5 72 Try.underlying42 hi0 hz0 hz1 hz2 rfl (by decide) (.slice A2 n cap2) n (rowCells (cs.take n)) rfl (HO.out.alloc _) _ 1 [.int .i64 6, .int .i64 0, .int .i64 0, .slice none 0 0, .slice Ak0 ks0.length capk0] rfl (Rd.one _ _ _ rfl) (by simp [Value.oneCell']) m2 (by omega) (by have := hk12.size; simp; omega) ?_
       intro A3 cap3 w3 hown3 hg3 hat3
       have hkk3 : Kept (fun k => (Value.slice A2 n cap2).ownBlock = some k) w2 w3 := ((Kept.refl _ _).alloc _).grown hg3 (fun k _ e => e)
       have HO3 := Lib.hid hown3
       clear hown3 hg3 hat3))
  have hs12 := hk12.size
  obtain ⟨ccs, hccs⟩ : ∃ ccs, ccs = cs.take n ++ [(⟨6, 0, 0, .slice none 0 0, [], .slice Ak0 ks0.length capk0, ks0⟩ : CallD)] := ⟨_, rfl⟩
  have hcl : ccs.length = n + 1 := by rw [hccs, List.length_append, List.length_take]; simp; omega
  have hlastk : ∀ (k : Nat) (c : CallD), ccs[k]? = some c → k = n → c.kind = 6 := by
    intro k c hc hkn
    rw [hccs, List.getElem?_append_right (by rw [List.length_take]; omega), List.length_take, show k - min n cs.length = 0 by omega] at hc
    simp at hc
    subst hc
    rfl
  have hrow : w3.ownsRow wS.heap.size 45 5 (.slice A3 (n + 1) cap3) (n + 1) (rowCells ccs) := by
    rw [hccs]
    simp only [rowCells, List.flatMap_append, List.flatMap_cons, List.flatMap_nil, List.append_nil]
    exact HO3.out
  obtain ⟨gc, cap3', hv3, hnc3, hcm3, hbg3, hcb3⟩ := callBlk_of hrow (by omega) hcl
  injection hv3 with e1 e2 e3
  subst e1 e3
  have hkS3 : Kept Kno w w3 := (hkS.then0 hk12).trans hkk3 (fun k hk h => by have := (own_base HO.out h).1; have := hkS.size; omega)
  have hI3 : Is w3 w.heap.size w.heap.size (List.replicate 8 noFile) (ab0 R) := (HIS.out.kept0 hk12).keptRow hkk3 (fun k h1 h2 => by have := (own_base HO.out h2).1; have := (HIS.out.low h1).2; omega)
  have hB3 : Blk w3 qs 53 (arr8 (List.replicate 8 0)) := (HBS.out.kept hk12 (fun h => h)).kept hkk3 (fun h => by have := (own_base HO.out h).1; omega)
  have HI3 := Lib.hid hI3
  have HB3 := Lib.hid hB3
  have HCB3 := Lib.hid hcb3
  have HALL' : Hid (∀ c ∈ ccs, CallOk w c) := Lib.hid (by rw [hccs]; exact HALL.out)
  have HCL := Lib.hid hcl
  have HLK := Lib.hid hlastk
  have m5 : cap3 ≤ 9223372036854775807 := by simp only [maxLen] at hcm3; omega
  have hgq : gc ≠ qs := by omega
  clear hccs hcl hlastk hrow hI3 hB3 hcb3 HIS HBS HO HO3 HALL hkk3 HRS HONE e2 hcm3
  generalize hN : n + 1 = N at HCL hnc3 ⊢
  have hNi : (n : Int) + 1 = (N : Int) := by omega
  go_wp2_with fail
  rw [hNi]
  clear hNi
  go_loopw [7, 30] (fun d i wr => CrRel w N gc qs ccs d i wr) (fun _ i _ => N - (intOf i).toNat)
  case atStart => exact ⟨0, w.heap.size, _, _, List.replicate 8 0, Nat.zero_le _, rfl, rfl, HI3.out, hkS3, HCB3.out, HB3.out, rfl, (fun i s h => by rw [List.getElem?_replicate] at h; split at h; injection h with h; omega; cases h), fun h => by omega⟩
  case round =>
    obtain ⟨k, B, fs, a, ss, hk, rfl, rfl, hi, hkr, hcb, hbs, hsl, hsy, hoff⟩ := hrel
    have HI := Lib.hid hi
    have HCB := Lib.hid hcb
    have HBS := Lib.hid hbs
    have HSL := Lib.hid hsl
    have HSY := Lib.hid hsy
    have HOFF := Lib.hid hoff
    clear hi hcb hbs hsl hsy hoff
    by_cases hlt : k < N
    · have hlow := HI.out.1.low
      obtain ⟨c, hc⟩ : ∃ c, ccs[k]? = some c := ⟨ccs[k]'(by rw [HCL.out]; omega), List.getElem?_eq_getElem _⟩
      have hokw := HALL'.out c (List.mem_of_getElem? hc)
      obtain ⟨cur, hcblk, hcur⟩ := HCB.out
      have c0 := (hcblk.cell (k * 5 + 0)).trans (hcur k 0 c hc (by omega))
      have c1 := (hcblk.cell (k * 5 + 1)).trans (hcur k 1 c hc (by omega))
      have c2 : wr.cell? ⟨gc, k * 5 + 1 + 1, none⟩ = _ := (hcblk.cell (k * 5 + 2)).trans (hcur k 2 c hc (by omega))
      have c3 : wr.cell? ⟨gc, k * 5 + 1 + 1 + 1, none⟩ = _ := (hcblk.cell (k * 5 + 3)).trans (hcur k 3 c hc (by omega))
      have c4 : wr.cell? ⟨gc, k * 5 + 1 + 1 + 1 + 1, none⟩ = _ := (hcblk.cell (k * 5 + 4)).trans (hcur k 4 c hc (by omega))
      have hl6 : k = n → c.kind = 6 := HLK.out k c hc
      obtain ⟨kind, file, nn, b, l, keep, ks⟩ := c
      simp only [callCells, List.getElem?_cons_succ, List.getElem?_cons_zero, Nat.add_zero] at c0 c1 c2 c3 c4 hl6
      obtain ⟨hbsx, hll, hkeep, hnn⟩ := hokw
      have HOK : Hid (CallOk w ⟨kind, file, nn, b, l, keep, ks⟩) := Lib.hid ⟨hbsx, hll, hkeep, hnn⟩
      simp only at hbsx hll hkeep hnn
      obtain ⟨Ab, capb, rfl, hb1, -⟩ := hbsx
      obtain ⟨Ak, capk, rfl, -⟩ := hkeep
      have hk0 : (0 : Int) ≤ (k : Int) := by omega
      have hk9 : (k : Int) < (N : Int) := by omega
      have HL6 := Lib.hid hl6
      clear hcblk hcur hc hl6
      go_wp2_with fail
      have hkA : Kept Kno w (wr.alloc (.cells #[.int .i64 kind, .int .i64 file, .int .i64 nn, .slice Ab l.length capb, .slice Ak ks.length capk] 45)) := hkr.alloc _
      have hkrA : Kept Kno wr (wr.alloc (.cells #[.int .i64 kind, .int .i64 file, .int .i64 nn, .slice Ab l.length capb, .slice Ak ks.length capk] 45)) := (Kept.refl _ _).alloc _
      have HBA := Lib.hid (Blk.new wr 45 #[.int .i64 kind, .int .i64 file, .int .i64 nn, .slice Ab l.length capb, .slice Ak ks.length capk])
      have hzA : wr.heap.size < (wr.alloc (.cells #[.int .i64 kind, .int .i64 file, .int .i64 nn, .slice Ab l.length capb, .slice Ak ks.length capk] 45)).heap.size := by simp
      generalize (wr.alloc (.cells #[.int .i64 kind, .int .i64 file, .int .i64 nn, .slice Ab l.length capb, .slice Ak ks.length capk] 45)) = wA at hkA hkrA HBA hzA ⊢
      clear c0 c1 c2 c3 c4
      have HIA := Lib.hid (HI.out.kept0 hkrA)
      have hqlt : qs < wr.heap.size := HBS.out.lt
      have hglt : gc < wr.heap.size := by obtain ⟨cu, h, _⟩ := HCB.out; exact h.lt
      have HBSA := Lib.hid (HBS.out.kept hkrA (fun h => h))
      have HCBA := Lib.hid (HCB.out.kept0 hkrA)
      have hdkA : ∀ k, DK B fs k → k < wr.heap.size := fun k h => (HI.out.low h).2
      have HDKA := Lib.hid hdkA
      have hlen8 : a.ls.length = 8 := HI.out.ls_len
      have HL8 := Lib.hid hlen8
      clear hdkA hlen8
      refine (files_any w.heap.size B fs a wA HIA.out).mono ?_
      rintro e w4 ⟨v, vs, rfl, hls, hkk4⟩
      have hk4 : Kept Kno w w4 := hkA.then0 hkk4
      have HI4 := Lib.hid (HIA.out.kept0 hkk4)
      have HQ4 := Lib.hid (HBA.out.kept hkk4 (fun h => h))
      have HLS := Lib.hid hls
      have HBS4 := Lib.hid (HBSA.out.kept hkk4 (fun h => h))
      have HCB4 := Lib.hid (HCBA.out.kept0 hkk4)
      have hs4 := hkk4.size
      obtain ⟨x0, hx0⟩ : ∃ x, vs[0]? = some x := ⟨vs[0]'(by rw [hls.2.1, HL8.out]; omega), List.getElem?_eq_getElem _⟩
      obtain ⟨gw, capw, hvw, -⟩ := hls.at hx0
      rw [hls.2.1, HL8.out] at hvw
      subst hvw
      have d0 := HQ4.out.cell 0
      have d1 := HQ4.out.cell 1
      have d2 := HQ4.out.cell 2
      have d3 := HQ4.out.cell 3
      have d4 := HQ4.out.cell 4
      simp only [List.getElem?_toArray, List.getElem?_cons_succ, List.getElem?_cons_zero] at d0 d1 d2 d3 d4
      clear hls hkk4 hx0
      go_wp2_with fail
      refine (play_any w.heap.size B fs a ⟨kind, file, nn, .slice Ab l.length capb, l, .slice Ak ks.length capk, ks⟩ w4 HI4.out (HOK.out.kept0 hk4) (fun w1 h => keep_far HOK.out.2.2.1 hk4 hlow h)).mono ?_
      rintro e w5 ⟨B', rfl, fs', hi5, hkk5, -⟩
      have hk5 : Kept Kno w w5 := HI4.out.kept hk4 (Nat.le_refl _) hkk5
      have HI5 := Lib.hid hi5
      have HQ5 := Lib.hid (HQ4.out.kept hkk5 (fun h => absurd (HDKA.out _ h) (Nat.lt_irrefl _)))
      have HL5 := Lib.hid (HLS.out.kept hkk5 (fun k h1 h2 h => absurd (HDKA.out _ h) (by omega)))
      have HBS5 := Lib.hid (HBS4.out.kept hkk5 (blk_not_dk HBS4.out HI4.out (by decide) (by decide)))
      have HCB5 := Lib.hid (HCB4.out.dk HI4.out hkk5)
      clear hi5 hkk5 HQ4 HLS d0 d1 d2 d3 d4 HBS4 HCB4
      go_wp2_with fail
      refine (files_any w.heap.size B' fs' _ w5 HI5.out).mono ?_
      rintro e w6 ⟨v6, vs6, rfl, hls6, hkk6⟩
      have hk6 : Kept Kno w w6 := hk5.then0 hkk6
      have HI6 := Lib.hid (HI5.out.kept0 hkk6)
      have HQ6 := Lib.hid (HQ5.out.kept hkk6 (fun h => h))
      have HL6w := Lib.hid (HL5.out.kept0 hkk6)
      have HL6n := Lib.hid hls6
      have HBS6 := Lib.hid (HBS5.out.kept hkk6 (fun h => h))
      have HCB6 := Lib.hid (HCB5.out.kept0 hkk6)
      have hlen8n := HI5.out.ls_len
      have HL8n := Lib.hid hlen8n
      obtain ⟨y0, hy0⟩ : ∃ x, vs6[0]? = some x := ⟨vs6[0]'(by rw [hls6.2.1, HL8n.out]; omega), List.getElem?_eq_getElem _⟩
      obtain ⟨gn, capn, hvn, -⟩ := hls6.at hy0
      rw [hls6.2.1, HL8n.out] at hvn
      subst hvn
      have d0 := HQ6.out.cell 0
      have d1 := HQ6.out.cell 1
      simp only [List.getElem?_toArray, List.getElem?_cons_succ, List.getElem?_cons_zero] at d0 d1
      have hq5 : qs < w5.heap.size := HBS5.out.lt
      have hqA : qs < wA.heap.size := by omega
      clear hls6 hkk6 hy0 hlen8n HQ5 HL5 HBS5 HCB5
      by_cases h6 : kind = 6
      · subst h6
        have hpc := play_crash a ⟨6, file, nn, .slice Ab l.length capb, l, .slice Ak ks.length capk, ks⟩ rfl
        rw [hpc] at HI6 HL6n HL8n ⊢
        simp only at HI6 HL6n HL8n ⊢
        clear hpc
        go_wp2_with fail
        go_loopw [53] (fun i wr => CrIn w6 qs ss (a.crash ks).ls i wr) (fun i _ => 8 - (intOf i).toNat)
        case atStart => exact ⟨0, by omega, rfl, Kept.refl _ _, HBS6.out⟩
        case round =>
          obtain ⟨j, hj, rfl, hkk, hb⟩ := hrel
          by_cases hlt8 : j < 8
          · have hwl := HL6w.out.kept hkk (fun k h1 h2 h => by unfold Kone at h; omega)
            have hnl := HL6n.out.kept hkk (fun k h1 h2 h => by unfold Kone at h; omega)
            obtain ⟨x, hx⟩ : ∃ x, vs[j]? = some x := ⟨vs[j]'(by rw [hwl.2.1, HL8.out]; omega), List.getElem?_eq_getElem _⟩
            obtain ⟨y, hy⟩ : ∃ y, vs6[j]? = some y := ⟨vs6[j]'(by rw [hnl.2.1, HL8n.out]; omega), List.getElem?_eq_getElem _⟩
            obtain ⟨lw, hlw⟩ : ∃ lw, a.ls[j]? = some lw := ⟨a.ls[j]'(by rw [HL8.out]; omega), List.getElem?_eq_getElem _⟩
            obtain ⟨ln, hln⟩ : ∃ ln, (a.crash ks).ls[j]? = some ln := ⟨(a.crash ks).ls[j]'(by rw [HL8n.out]; omega), List.getElem?_eq_getElem _⟩
            obtain ⟨sj, hsj⟩ : ∃ sj, ss[j]? = some sj := ⟨ss[j]'(by rw [HSL.out]; omega), List.getElem?_eq_getElem _⟩
            obtain ⟨g1, cp1, hv1, e1⟩ := hwl.at hx
            obtain ⟨g2, cp2, hv2, e2⟩ := hnl.at hy
            have hox := hwl.2.2 j x lw hx hlw
            have hoy := hnl.2.2 j y ln hy hln
            obtain ⟨Ax, cx, hxv⟩ := own_form hox
            obtain ⟨Ay, cy, hyv⟩ := own_form hoy
            have hcx := own_cap hox hxv
            subst hxv hyv
            injection hv1 with hv1 z1 z2
            injection hv1 with hv1
            injection hv1 with hv1
            injection hv2 with hv2 z3 z4
            injection hv2 with hv2
            injection hv2 with hv2
            subst hv1 hv2
            clear z1 z2 z3 z4
            obtain ⟨f1, f2, f3, f4⟩ := crash_file a ks HIA.out.len HIA.out.sizes j hlt8 lw ln hlw hln
            have f5 := HSY.out j sj hsj
            have e3 : wr.cell? ⟨qs, j, none⟩ = some (.int .i64 (sj : Int)) := by
              rw [hb.cell]
              refine arr8_at _ _ _ ?_
              have hjl : (((a.crash ks).ls.map List.length).take j).length = j := by rw [List.length_take, List.length_map, HL8n.out]; omega
              rw [List.getElem?_append_right (by omega), hjl, Nat.sub_self, List.getElem?_drop, Nat.add_zero]
              exact hsj
            have e4 := hb.frozen j
            have hqq : ∀ n, Calls Try.prog 18 #[.slice Ay ln.length cy, .slice Ax ln.length cx] (wr.drewN n) fun e w' => e = .returned (.bool true) ∧ w' = wr.drewN n := fun n => by
              have h9 := equal_quiet hoy.bs (Bs.cut hox.bs f2) n
              rw [decide_eq_true f3] at h9
              exact h9
            have HQQ := Lib.hid hqq
            have t1 : ¬ (ln.length : Int) < (sj : Int) := by omega
            have t2 : ¬ (lw.length : Int) < (ln.length : Int) := by omega
            have u1 : decide (ln.length < sj) = false := by simp; omega
            have u2 : decide (lw.length < ln.length) = false := by simp; omega
            have t3 : (ln.length : Int) ≤ (cx : Int) := by omega
            have t4 : ln.length ≤ cx := by omega
            have t5 : cx ≤ 9223372036854775807 := by have := hcx.2; simp only [maxLen] at this; omega
            have t6 : (0 : Int) ≤ (ln.length : Int) := by omega
            have hj0 : (0 : Int) ≤ (j : Int) := by omega
            have hj8 : (j : Int) < 8 := by omega
            have HLN := Lib.hid hln
            have HB := Lib.hid hb
            have HKK := Lib.hid hkk
            clear hwl hnl hx hy hlw hln hsj hox hoy f3 hqq hb hkk hcx
            go_wp2_with fail
            go_quiet ((go_at_call 18; exact Calls.quiet_of_same (HQQ.out _)))
            go_wp2
            go_roundw
            case rel => exact crin_step hlt8 HLN.out HSL.out HL8n.out HKK.out HB.out
            case measure => simp [intOf]; omega
          · have hj8 : ¬ (j : Int) < 8 := by omega
            obtain rfl : j = 8 := by omega
            have hnd : ¬ DK B' fs' qs := blk_not_dk HBS6.out HI6.out (by decide) (by decide)
            have hIe : Is wr w.heap.size B' fs' (a.crash ks) := HI6.out.keptRow hkk (fun k h1 h2 => by unfold Kone at h2; subst h2; exact hnd h1)
            have hke : Kept Kno w wr := hk6.trans hkk (fun k h1 h2 => by unfold Kone at h2; omega)
            have hce : CallBlk wr gc ccs := by
              obtain ⟨cu, h1, h2⟩ := HCB6.out
              exact ⟨cu, h1.kept hkk (fun h => hgq h), h2⟩
            have hbe : Blk wr qs 53 (arr8 ((a.crash ks).ls.map List.length)) := by
              have h1 := hb
              rw [List.take_of_length_le (by rw [List.length_map, HL8n.out]; omega), List.drop_of_length_le (by rw [HSL.out]; omega), List.append_nil] at h1
              exact h1
            have hse : ∀ i s : Nat, ((a.crash ks).ls.map List.length)[i]? = some s → s ≤ (a.crash ks).syn i := by
              intro i s hs
              have hi8 : i < 8 := by have := (List.getElem?_eq_some_iff.1 hs).1; rw [List.length_map, HL8n.out] at this; exact this
              obtain ⟨lw, hlw⟩ : ∃ lw, a.ls[i]? = some lw := ⟨a.ls[i]'(by rw [HL8.out]; omega), List.getElem?_eq_getElem _⟩
              obtain ⟨ln, hln⟩ : ∃ ln, (a.crash ks).ls[i]? = some ln := ⟨(a.crash ks).ls[i]'(by rw [HL8n.out]; omega), List.getElem?_eq_getElem _⟩
              obtain ⟨f1, f2, f3, f4⟩ := crash_file a ks HIA.out.len HIA.out.sizes i hi8 lw ln hlw hln
              rw [List.getElem?_map, hln] at hs
              simp at hs
              omega
            have HE := Lib.hid (And.intro hIe (And.intro hke (And.intro hce (And.intro hbe hse))))
            clear hIe hke hce hbe hse hb hkk hnd
            go_wp2
            go_roundw
            case rel =>
              obtain ⟨p1, p2, p3, p4, p5⟩ := HE.out
              exact ⟨k + 1, B', fs', a.crash ks, (a.crash ks).ls.map List.length, by omega, by go_num, rfl, p1, p2, p3, p4, by rw [List.length_map]; exact HL8n.out, p5, fun _ => rfl⟩
            case measure => simp [intOf]; omega
      · have hkn : k ≠ n := fun e => h6 (HL6.out e)
        have hkb : (kind == 6) = false := by simpa using h6
        by_cases hsyn : (a.play ⟨kind, file, nn, .slice Ab l.length capb, l, .slice Ak ks.length capk, ks⟩).2 = 0 ∧ 2 ≤ kind ∧ kind ≤ 4
        · obtain ⟨hz0', hk2', hk4'⟩ := hsyn
          obtain ⟨fi, lf, hfi, hfi8, hset⟩ := play_synced a ⟨kind, file, nn, .slice Ab l.length capb, l, .slice Ak ks.length capk, ks⟩ hz0' hk2' hk4'
          simp only at hfi
          subst hfi
          have hpl := HIA.out.len
          generalize hgp : (a.play (⟨kind, ↑fi, nn, .slice Ab l.length capb, l, .slice Ak ks.length capk, ks⟩ : CallD)) = p at HI6 HL6n HL8n hz0' hset ⊢
          obtain ⟨a', z⟩ := p
          simp only at HI6 HL6n HL8n hz0' hset ⊢
          subst hz0'
          have hlnf : a'.ls[fi]? = some lf := by simp only [Go.Proofs.Ytpkpinkjjknbdaa.Ab.ls, List.getElem?_map, hset]; rw [List.getElem?_set_self (by omega)]; rfl
          obtain ⟨y, hy⟩ : ∃ y, vs6[fi]? = some y := ⟨vs6[fi]'(by rw [HL6n.out.2.1, HL8n.out]; omega), List.getElem?_eq_getElem _⟩
          obtain ⟨sj, hsj⟩ : ∃ sj, ss[fi]? = some sj := ⟨ss[fi]'(by rw [HSL.out]; omega), List.getElem?_eq_getElem _⟩
          obtain ⟨g2, cp2, hv2, e2⟩ := HL6n.out.at hy
          have hoy := HL6n.out.2.2 fi y lf hy hlnf
          obtain ⟨Ay, cy, hyv⟩ := own_form hoy
          subst hyv
          injection hv2 with hv2 z3 z4
          injection hv2 with hv2
          injection hv2 with hv2
          subst hv2
          clear z3 z4
          have e3 : w6.cell? ⟨qs, fi, none⟩ = some (.int .i64 (sj : Int)) := (HBS6.out.cell fi).trans (arr8_at _ _ _ hsj)
          have e4 := HBS6.out.frozen fi
          have hnd : ¬ DK B' fs' qs := blk_not_dk HBS6.out HI6.out (by decide) (by decide)
          have hkk : Kept (Kone qs) w6 (w6.setCell ⟨qs, fi, none⟩ (.int .i64 (lf.length : Int))) := Kept.setIn (S := Kone qs) (p := ⟨qs, fi, none⟩) (Kept.refl _ _) (Eq.refl qs) _
          have hIe : Is (w6.setCell ⟨qs, fi, none⟩ (.int .i64 (lf.length : Int))) w.heap.size B' fs' a' := HI6.out.keptRow hkk (fun k h1 h2 => by unfold Kone at h2; subst h2; exact hnd h1)
          have hke : Kept Kno w (w6.setCell ⟨qs, fi, none⟩ (.int .i64 (lf.length : Int))) := hk6.trans hkk (fun k h1 h2 => by unfold Kone at h2; omega)
          have hce : CallBlk (w6.setCell ⟨qs, fi, none⟩ (.int .i64 (lf.length : Int))) gc ccs := by
            obtain ⟨cu, h1, h2⟩ := HCB6.out
            exact ⟨cu, h1.kept hkk (fun h => hgq h), h2⟩
          have hbe : Blk (w6.setCell ⟨qs, fi, none⟩ (.int .i64 (lf.length : Int))) qs 53 (arr8 (ss.set fi lf.length)) := by
            have h1 := HBS6.out.set_ fi (.int .i64 (lf.length : Int))
            rw [arr8_set] at h1
            exact h1
          have hse : ∀ i s : Nat, (ss.set fi lf.length)[i]? = some s → s ≤ a'.syn i := by
            intro i s hs
            have hsy' : a'.syn i = if fi = i ∧ i < a.fs.length then lf.length else a.syn i := by
              obtain ⟨r', f', o', p'⟩ := a'
              simp only at hset
              subst hset
              rw [syn_set]
              rfl
            rw [hsy']
            rw [List.getElem?_set] at hs
            by_cases hfi2 : fi = i
            · subst hfi2
              rw [if_pos rfl, if_pos (by rw [HSL.out]; omega)] at hs
              injection hs with hs
              rw [if_pos ⟨rfl, by omega⟩]
              omega
            · rw [if_neg hfi2] at hs
              rw [if_neg (fun h => hfi2 h.1)]
              exact HSY.out i s hs
          have HE := Lib.hid (And.intro hIe (And.intro hke (And.intro hce (And.intro hbe hse))))
          have hf0 : (0 : Int) ≤ (fi : Int) := by omega
          have hf8 : (fi : Int) < 8 := by omega
          clear hIe hke hce hbe hse hnd hkk hy hsj hoy hlnf hset hgp hpl
          go_wp2_with fail
          go_region
          all_goals
            go_wp2
            obtain ⟨p1, p2, p3, p4, p5⟩ := HE.out
            have hdr : Kept Kno (w6.setCell ⟨qs, fi, none⟩ (.int .i64 (lf.length : Int))) (w6.setCell ⟨qs, fi, none⟩ (.int .i64 (lf.length : Int))).drew := (Kept.refl _ _).drew
            exact ⟨⟨k + 1, B', fs', a', ss.set fi lf.length, by omega, by go_num, rfl, p1.kept0 hdr, p2.then0 hdr, p3.kept0 hdr, p4.kept hdr (fun h => h), by rw [List.length_set]; exact HSL.out, p5, fun h => absurd h (by omega)⟩, by simp [intOf]; omega⟩
        · have hps := play_syn a ⟨kind, file, nn, .slice Ab l.length capb, l, .slice Ak ks.length capk, ks⟩ h6 hsyn
          have HPS := Lib.hid hps
          have hcond : ∀ z : Int, (a.play ⟨kind, file, nn, .slice Ab l.length capb, l, .slice Ak ks.length capk, ks⟩).2 = z → z ≠ 0 ∨ kind < 2 ∨ 4 < kind := by
            intro z hz
            rw [hz] at hsyn
            by_cases h1 : z = 0
            · by_cases h2 : 2 ≤ kind
              · exact .inr (.inr (by simp only [h1, h2, true_and] at hsyn; omega))
              · exact .inr (.inl (by omega))
            · exact .inl h1
          have hcz := hcond _ rfl
          have hse : ∀ i s : Nat, ss[i]? = some s → s ≤ (a.play ⟨kind, file, nn, .slice Ab l.length capb, l, .slice Ak ks.length capk, ks⟩).1.syn i := fun i s hs => by rw [hps]; exact HSY.out i s hs
          have HSE := Lib.hid hse
          clear hsyn hps hcond hse
          generalize (a.play ⟨kind, file, nn, .slice Ab l.length capb, l, .slice Ak ks.length capk, ks⟩) = p at HI6 HL6n HL8n hcz HSE HPS ⊢
          obtain ⟨a', z⟩ := p
          simp only at HI6 HL6n HL8n hcz HSE ⊢
          by_cases hz : z = 0
          · subst hz
            have hcz2 : kind < 2 ∨ 4 < kind := by omega
            clear hcz
            rcases hcz2 with hc2 | hc2
            · have hc3 : ¬ 2 ≤ kind := by omega
              go_wp2
              go_roundw
              case rel => exact ⟨k + 1, B', fs', a', ss, by omega, by go_num, rfl, HI6.out, hk6, HCB6.out, HBS6.out, HSL.out, HSE.out, fun h => absurd h (by omega)⟩
              case measure => simp [intOf]; omega
            · have hc3 : 2 ≤ kind := by omega
              have hc4 : ¬ kind ≤ 4 := by omega
              go_wp2
              go_roundw
              case rel => exact ⟨k + 1, B', fs', a', ss, by omega, by go_num, rfl, HI6.out, hk6, HCB6.out, HBS6.out, HSL.out, HSE.out, fun h => absurd h (by omega)⟩
              case measure => simp [intOf]; omega
          · have hz1 : (z == 0) = false := by simpa using hz
            clear hcz
            go_wp2
            go_roundw
            case rel => exact ⟨k + 1, B', fs', a', ss, by omega, by go_num, rfl, HI6.out, hk6, HCB6.out, HBS6.out, HSL.out, HSE.out, fun h => absurd h (by omega)⟩
            case measure => simp [intOf]; omega
    · have hk9 : ¬ (k : Int) < (N : Int) := by omega
      have hao := HOFF.out (by omega)
      have HAO := Lib.hid hao
      clear hao
      go_wp2_with fail
      refine (begun_any _).mono ?_
      rintro e w4 ⟨rfl, hkk4⟩
      have HI4 := Lib.hid (HI.out.kept0 hkk4)
      have hk4 : Kept Kno w w4 := hkr.then0 hkk4
      clear hkk4
      go_wp2_with fail
      refine (off_any _ a.off _ HI4.out.1.c_off).mono ?_
      rw [HAO.out]
      rintro e w5 ⟨rfl, rfl⟩
      go_wp2
      go_ret
      exact ⟨rfl, hk4⟩

theorem crashes_final (r : Int) (cv : Value) (cs : List CallD) (keep0 : Value) (ks0 : List Int) (w : World) (hr : (Lit.int .u16 r).wf = true) (hin : CallsIn w cv cs) (hk : KeepIn w keep0 ks0) :
    Calls Try.prog 7 #[.int .u16 r, cv, keep0] w (RetNew (.bool true) w) := by
  have hx : 0 ≤ r ∧ r ≤ 65535 := by simpa [Lit.wf, IntKind.min, IntKind.max, IntKind.signed, IntKind.bits] using hr
  exact crashes_walk r hx.1 hx.2 cv cs keep0 ks0 w hin hk
end Go.Proofs.Ytpkpinkjjknbdaa

