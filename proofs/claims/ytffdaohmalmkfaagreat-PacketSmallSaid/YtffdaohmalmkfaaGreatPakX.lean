/-
  bytes.Repeat of one byte, 64 times: a text of 64 bytes.
-/
import Derived.Test.YtffdaohmalmkfaaGreatPakB
import Derived.Lib.MakeNoZero
import Derived.Laws.CopyOwn
import Derived.Laws.Externs
namespace Go.Proofs.YtffdaohmalmkfaaGreat
open Go.RowKit
set_option linter.unusedVariables false

theorem digits_bytes : ∀ (n t : Nat) (acc : Array Value), (∀ u ∈ acc, ∃ c : UInt8, u = bv c) → ∀ u ∈ Extern.BytealgMakeNoZero.digits n t acc, ∃ c : UInt8, u = bv c
  | 0, t, acc, h => by simpa [Extern.BytealgMakeNoZero.digits] using h
  | n + 1, t, acc, h => by
    rw [Extern.BytealgMakeNoZero.digits]
    refine digits_bytes n _ _ (fun u hu => ?_)
    rcases Array.mem_push.1 hu with hu | rfl
    · exact h u hu
    · refine ⟨UInt8.ofNat (t % 256), ?_⟩
      unfold bv
      rw [UInt8.toNat_ofNat']
      simp
theorem all_bytes : ∀ (l : List Value), (∀ u ∈ l, ∃ c : UInt8, u = bv c) → ∃ bs : List UInt8, l = bs.map bv
  | [], _ => ⟨[], rfl⟩
  | u :: l, h => by
    obtain ⟨c, rfl⟩ := h u (List.mem_cons_self ..)
    obtain ⟨bs, rfl⟩ := all_bytes l (fun v hv => h v (List.mem_cons_of_mem _ hv))
    exact ⟨c :: bs, rfl⟩

theorem run_makeNoZero_bytes {P : Program} (w : World) (ps : Array TypeId) (t e : TypeId) (ht : P.underlying t = some (.slice e)) (n : Nat) (hn : n ≤ 281474976710656) :
    ∃ bs : List UInt8, (Extern.BytealgMakeNoZero.makeNoZero ps #[t] #[.int .i64 n]).run P w = .ok (.slice (some ⟨w.heap.size, 0, none⟩) n bs.length) (w.drew.drew.alloc (.cells (bs.map bv).toArray e)) ∧ n ≤ bs.length ∧ (n ≤ maxLen → bs.length ≤ maxLen) := by
  have hdef : Extern.BytealgMakeNoZero.makeNoZero ps #[t] #[.int .i64 n] =
      (do
        let .slice elem ← underlying t | stuck "bytealg.MakeNoZero: slice type expected"
        if (n : Int) < 0 || (n : Int) > 2 ^ 48 then runtimePanic (.error "makeslice: len out of range")
        let cap ← choose (.appendCap (n : Int).toNat 0 elem)
        askRoom cap
        let bytes ← choose (.extern "internal/bytealg.MakeNoZero.bytes" 0)
        let a ← newRow elem (Extern.BytealgMakeNoZero.digits cap bytes #[])
        pure (.slice (some a) (n : Int).toNat cap)) := rfl
  have hx : ∃ cs : Array Value, (Extern.BytealgMakeNoZero.makeNoZero ps #[t] #[.int .i64 n]).run P w = .ok (.slice (some ⟨w.heap.size, 0, none⟩) n cs.size) (w.drew.drew.alloc (.cells cs e)) ∧ n ≤ cs.size ∧ (n ≤ maxLen → cs.size ≤ maxLen) ∧ ∀ u ∈ cs, ∃ c : UInt8, u = bv c := by
    refine ⟨Extern.BytealgMakeNoZero.digits (grownCap w n 0 e) ((Question.extern "internal/bytealg.MakeNoZero.bytes" 0).cut (w.tape (w.drawn + 1) (.extern "internal/bytealg.MakeNoZero.bytes" 0))) #[], ?_, ?_, ?_, digits_bytes _ _ _ (fun u hu => by simp at hu)⟩
    · rw [hdef]
      have h1 : ¬ (n : Int) < 0 := by omega
      have h2 : ¬ (281474976710656 : Int) < (n : Int) := by omega
      simp [run_underlying ht, h1, h2, Question.forced, newRow, Lib.size_digits, grownCap]
    · rw [Lib.size_digits]
      simpa using grownCap_ge w n 0 e
    · intro hm
      rw [Lib.size_digits]
      simpa using grownCap_le_maxLen w n 0 e hm
  obtain ⟨cs, h1, h2, h3, h4⟩ := hx
  obtain ⟨bs, hb⟩ := all_bytes cs.toList (fun u hu => h4 u (by simpa using hu))
  have e1 : cs = (bs.map bv).toArray := by rw [← hb]
  have e2 : cs.size = bs.length := by rw [e1]; simp
  rw [e2] at h1 h2 h3
  rw [e1] at h1
  exact ⟨bs, h1, h2, h3⟩

set_option maxRecDepth 100000 in
set_option maxHeartbeats 1000000 in
theorem mul64_any (w : World) : Calls Tryz.prog 115 #[.int .u64 1, .int .u64 64] w fun e w' => e = .returned (.tuple #[.int .u64 0, .int .u64 64]) ∧ w = w' := by
  have a1 : bits .and .u64 1 4294967295 = 1 := by decide +kernel
  have a2 : bits .and .u64 64 4294967295 = 64 := by decide +kernel
  have a3 : bits .and .u64 0 4294967295 = 0 := by decide +kernel
  go_enter Tryz.func115, Tryz.ntmps115
  go_wp2
  go_ret2
  exact ⟨rfl, rfl⟩
set_option maxRecDepth 100000 in
set_option maxHeartbeats 1000000 in
theorem mul_any (w : World) : Calls Tryz.prog 49 #[.int .u64 1, .int .u64 64] w fun e w' => e = .returned (.tuple #[.int .u64 0, .int .u64 64]) ∧ w = w' := by
  go_enter Tryz.func49, Tryz.ntmps49
  go_wp2_with fail
  refine (mul64_any w).mono ?_
  rintro e w1 ⟨rfl, rfl⟩
  go_wp2
  go_ret2
  exact ⟨rfl, rfl⟩

def RepRel (G n : Nat) (w : World) (i : Value) (wr : World) : Prop :=
  ∃ (k : Nat) (bs : List UInt8), 1 ≤ k ∧ k ≤ 64 ∧ i = .int .i64 k ∧ bs.length = n ∧ Blk wr G 5 (bs.map bv).toArray ∧ Kept Kno w wr
def RetB64 (w : World) (e : Ending) (w' : World) : Prop := ∃ (A : Option Addr) (cap : Nat) (bs : List UInt8), bs.length = 64 ∧ e = .returned (.slice A bs.length cap) ∧ Bs w' (.slice A bs.length cap) bs ∧ Kept Kno w w'

set_option maxRecDepth 100000 in
set_option maxHeartbeats 1000000 in
theorem repeat64_any (v : Value) (c : UInt8) (w : World) (hb : Bs w v [c]) : Calls Tryz.prog 18 #[v, .int .i64 64] w (RetB64 w) := by
  have HB := Lib.hid hb
  obtain ⟨A, cap, rfl, hcap, -, hnil, hat⟩ := hb
  have hA : ∃ ad, A = some ad ∧ w.cell? (ad.add 0) = some (bv c) := by
    cases A with
    | none => have := (hnil rfl).1; simp at this
    | some ad => exact ⟨ad, rfl, hat ad rfl 0 (bv c) rfl⟩
  obtain ⟨ad, rfl, hc0⟩ := hA
  obtain ⟨bs, hrun, hle, hmax⟩ := run_makeNoZero_bytes (P := Tryz.prog) w #[3] 22 5 Tryz.underlying22 64 (by decide)
  have hcall : (callFunc 50 #[.int .i64 64]).run Tryz.prog w = .ok (.value (.slice (some ⟨w.heap.size, 0, none⟩) 64 bs.length)) (w.drew.drew.alloc (.cells (bs.map bv).toArray 5)) := by
    rw [run_callFunc_extern Tryz.func50 (by kernel_rfl) (by kernel_rfl) (by kernel_rfl) (e := Extern.BytealgMakeNoZero.makeNoZero #[3] #[22]) (by kernel_rfl)]
    exact (congrArg (fun r => Result.andThen r _) hrun).trans rfl
  have hmax2 : bs.length ≤ 9223372036854775807 := by have := hmax (by decide); simp only [maxLen] at this; omega
  have hle2 : (64 : Int) ≤ (bs.length : Int) := by omega
  have HC0 := Lib.hid hc0
  clear hrun hmax hnil hat hc0
  simp only [List.length_cons, List.length_nil, Nat.zero_add] at *
  go_enter Tryz.func18, Tryz.ntmps18
  go_wp2_with fail
  refine (mul_any w).mono ?_
  rintro e w1 ⟨rfl, rfl⟩
  obtain ⟨w2, hw2⟩ : ∃ w2, w2 = (w.alloc (.cells (bs.map bv).toArray 5)).drew.drew := ⟨_, rfl⟩
  have hk2 : Kept Kno w w2 := by rw [hw2]; exact ((Kept.refl Kno w).alloc _).drew.drew
  have hG2 : Blk w2 w.heap.size 5 (bs.map bv).toArray := by rw [hw2]; exact Blk.new w _ _
  have hsz : (Tryz.prog.info? 5).map (·.size) = some 1 := by kernel_rfl
  have HSZ := Lib.hid hsz
  have HK2 := Lib.hid hk2
  have HG2 := Lib.hid hG2
  have HW2 := Lib.hid hw2
  clear hw2 hk2 hG2 hsz
  have HS0 : Hid (w2.cell? (ad.add 0) = some (bv c)) := Lib.hid (HK2.out.cell_some HC0.out (fun h => h))
  have HSRC : Hid (∀ (j : Nat) (u : Value), [bv c][j]? = some u → w2.cell? (ad.add j) = some u) := Lib.hid (fun j u hj => by
    match j, hj with
    | 0, hj => simp only [List.getElem?_cons_zero, Option.some.injEq] at hj; subst hj; exact HS0.out
    | j + 1, hj => simp at hj)
  have HFIT : Hid (0 + [bv c].length ≤ (bs.map bv).length) := Lib.hid (by simp; omega)
  have H1 : Hid (∀ u ∈ [bv c], u.oneCell' = true) := Lib.hid (by simp [bv_one])
  have HBL : Hid (Below w.heap.size w w2) := Lib.hid HK2.out.to_below
  go_upto_region 17 with (fail)
  rw [← HW2.out]
  clear hcall
  go_wp2_with (refine wpList_copy_splice rfl (.tmp 58) (.tmp 59) 22 22 rfl 5 Tryz.underlying22 HSZ.out (some ⟨w.heap.size, 0, none⟩) (some ad) 64 64 1 cap rfl rfl w.heap.size 0 (bs.map bv) 5 HG2.out [bv c] rfl (fun _ => ⟨rfl, ad, rfl, HSRC.out⟩) HFIT.out H1.out w.heap.size w HBL.out (Nat.le_refl _) ?_; intro w3 hg3 hb3)
  have hG3 : Blk w3 w.heap.size 5 ((c :: bs.drop 1).map bv).toArray := by have := hg3.out; unfold Blk; simpa [splice] using this
  have hl3 : (c :: bs.drop 1).length = bs.length := by simp; omega
  have HG3 := Lib.hid hG3
  have HL3 := Lib.hid hl3
  have HK3 : Hid (Kept Kno w w3) := Lib.hid (Kept.of_below hb3 Kno)
  clear hg3 hb3 hG3 hl3
  go_loopw [10] (fun i wr => RepRel w.heap.size bs.length w i wr) (fun i _ => 64 - (intOf i).toNat)
  case atStart => exact ⟨1, _, by omega, by omega, rfl, HL3.out, HG3.out, HK3.out⟩
  case round =>
    obtain ⟨k, ds, hk1, hk64, rfl, hdl, hG, hkr⟩ := hrel
    have HG := Lib.hid hG
    have HKR := Lib.hid hkr
    clear hG hkr
    by_cases hlt : k < 64
    · have hkI : (k : Int) < 64 := by omega
      have hk0 : (0 : Int) ≤ (k : Int) := by omega
      have hkn : ¬ (64 : Int) < (k : Int) := by omega
      have hkle : (k : Int) ≤ 64 := by omega
      have hne64 : ¬ 64 = k := by omega
      obtain ⟨cs, hcs⟩ : ∃ cs, cs = (ds.take (min k (64 - k))).map bv := ⟨_, rfl⟩
      have hcl : cs.length = min k (64 - k) := by rw [hcs, List.length_map, List.length_take]; omega
      have hl1 : 1 ≤ cs.length := by omega
      have hl2 : k + cs.length ≤ 64 := by omega
      have HSR : Hid (∀ (j : Nat) (u : Value), cs[j]? = some u → wr.drew.cell? ((⟨w.heap.size, 0, none⟩ : Addr).add j) = some u) := Lib.hid (fun j u hj => by
        rw [add_lit0, Nat.zero_add]
        show wr.cell? ⟨w.heap.size, j, none⟩ = some u
        rw [HG.out.cell]
        rw [hcs, List.map_take, List.getElem?_take] at hj
        split at hj
        · simpa using hj
        · cases hj)
      have HFT : Hid (k + cs.length ≤ (ds.map bv).length) := Lib.hid (by rw [List.length_map, hdl]; omega)
      have HMI : Hid (cs.length = Nat.min k (64 - k)) := Lib.hid hcl
      have HO1 : Hid (∀ u ∈ cs, u.oneCell' = true) := Lib.hid (by rw [hcs]; exact bvs_one _)
      have HBB : Hid (Below w.heap.size w wr.drew) := Lib.hid (HKR.out.drew.to_below)
      have HNEW : Hid (∃ es : List UInt8, es.length = ds.length ∧ splice (ds.map bv) k cs = es.map bv) := Lib.hid (by
        refine ⟨ds.take k ++ (ds.take (min k (64 - k)) ++ ds.drop (k + cs.length)), ?_, ?_⟩
        · have h1 : (ds.take (min k (64 - k))).length = cs.length := by rw [hcs, List.length_map]
          rw [List.length_append, List.length_append, h1, List.length_take, List.length_drop]
          omega
        · unfold splice
          rw [hcs]
          simp [List.map_take, List.map_drop])
      have hl3 : (k : Int) + (cs.length : Int) ≤ 64 := by omega
      have hl4 : (1 : Int) ≤ (cs.length : Int) := by omega
      have hsum : IntKind.i64.wrap ((k : Int) + (cs.length : Int)) = (k : Int) + (cs.length : Int) := IntWalk.i64_in _ (by omega)
      clear hcs hcl
      go_upto_region 20 with (fail)
      go_region_law (refine step_copy_splice rfl (.tmp 70) (.tmp 73) 22 22 rfl 5 Tryz.underlying22 HSZ.out (some ⟨w.heap.size, k, none⟩) (some ⟨w.heap.size, 0, none⟩) (64 - k) (64 - k) k 64 (by simp [Act.eval, Act.put, hne64]) (by simp [Act.eval, Act.put]) w.heap.size k (ds.map bv) 5 HG.out cs HMI.out (fun _ => ⟨rfl, _, rfl, HSR.out⟩) HFT.out HO1.out w.heap.size w HBB.out (Nat.le_refl _) ?_; intro w4 hg4 hb4)
      all_goals
        have HG4 := hg4
        have HK4 : Hid (Kept Kno w w4) := Lib.hid (Kept.of_below hb4 Kno)
        clear hg4 hb4
        go_wp2
        go_roundw
        case rel =>
          obtain ⟨es, he1, he2⟩ := HNEW.out
          refine ⟨k + cs.length, es, by omega, by omega, ?_, by omega, ?_, HK4.out⟩
          · simp only [goInt, hsum, Value.int.injEq, true_and]; omega
          · have := HG4.out; rw [he2] at this; exact this
        case measure => simp [intOf, goInt, hsum]; omega
    · obtain rfl : k = 64 := by omega
      have hx : RetB64 w (.returned (.slice (some ⟨w.heap.size, 0, none⟩) 64 64)) wr := by
        have hl64 : (ds.take 64).length = 64 := by rw [List.length_take]; omega
        refine ⟨some ⟨w.heap.size, 0, none⟩, 64, ds.take 64, hl64, by rw [hl64], ?_, HKR.out⟩
        refine ⟨_, _, rfl, by omega, by simp, (fun h => by cases h), fun a ha j u hj => ?_⟩
        cases ha
        rw [add_lit0, Nat.zero_add, HG.out.cell]
        rw [List.map_take, List.getElem?_take] at hj
        split at hj
        · simpa using hj
        · cases hj
      have HX := Lib.hid hx
      clear hx
      go_wp2
      go_ret
      exact HX.out

end Go.Proofs.YtffdaohmalmkfaaGreat
