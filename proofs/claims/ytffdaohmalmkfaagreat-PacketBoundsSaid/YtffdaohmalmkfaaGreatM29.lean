/-
  Contracts and plain laws that the claim's theorem rests on, some texts in one file.
-/
import Derived.Test.YtffdaohmalmkfaaGreatM28
/-
  Packet: Encode at a verdict and at a sync.
-/
namespace Go.Proofs.YtffdaohmalmkfaaGreat
open Go.RowKit
set_option linter.unusedVariables false

set_option maxRecDepth 100000 in
set_option maxHeartbeats 2000000 in
theorem wfSubs (D B X k off : Nat) (u : Value) (xs : List Sub) (mcs : Array Value) (v : Value) (l : List UInt8) (w : World) (hof : OfIs k off) (hm : mcs[off]? = some u) (hr : SubsIn w B u xs) (hB : B ≤ D) (hf : ∀ x ∈ xs, fitQ 1 x.q = true) (hX : w.cell? ⟨X, 0, none⟩ = some (.func (.func k) #[] #[])) (h : Wr w D v l) (hl : l.length + (encSubs xs).length ≤ 600000000000) :
    Calls Tryz.prog 151 #[.pointer (some ⟨D, 0, none⟩), .agg mcs, .pointer (some ⟨X, 0, none⟩)] w (WrOk D v (l ++ encSubs xs) w) := by
  have H := Lib.hid h
  have HO := Lib.hid hof.2
  have HF := Lib.hid hf
  have e1 : ∀ (args : Array Value) (w : World), (callFunc k args).run Tryz.prog w = .ok (.enter k args) w := hof.1
  have hkA : Kept Kno w (w.alloc (.cells mcs 36)) := (Kept.refl _ _).alloc _
  have hXA := hkA.cell_some hX (fun h => h)
  have HR := Lib.hid (hr.old (hkA.old (Nat.le_trans hB (Nat.le_of_lt h.lt)) (fun _ _ h => h)) (Nat.le_refl _))
  obtain ⟨Ar, capr, rfl, -⟩ := hr
  have hc : (w.alloc (.cells mcs 36)).cell? ⟨w.heap.size, off, none⟩ = some (.slice Ar xs.length capr) := ((Blk.new w 36 mcs).cell off).trans hm
  have HK := Lib.hid hkA
  clear h hof hf hkA hX
  go_enter Tryz.func151, Tryz.ntmps151
  go_wp2_with fail
  refine (HO.out _ _).mono ?_
  rintro e w1 ⟨rfl, rfl⟩
  go_wp2_with fail
  refine (wsubs_any D B v _ l xs _ (H.out.kept HK.out) HR.out HF.out hB hl).mono ?_
  rintro e w2 ⟨v2, rfl, hw2, hs2⟩
  have HX := Lib.hid (WrOk.new HK.out ⟨v2, rfl, hw2, hs2⟩)
  clear hw2 hs2
  go_wp2
  go_end0
  exact HX.out

set_option maxRecDepth 100000 in
set_option maxHeartbeats 2000000 in
theorem wfRef (D : Nat) (d : Int) (x : Verd) (a k : Value) (v : Value) (l : List UInt8) (w : World) (h1 : I64 x.reason) (h2 : I64 x.code) (h3 : I64 x.table) (hr : RowB w D k x.key) (h12 : x.key.length ≤ 12) (hv : valsOk x.key = true) (h : Wr w D v l) (hl : l.length ≤ 800000000000) :
    Calls Tryz.prog 184 #[.pointer (some ⟨D, 0, none⟩), .agg (verdC d x a k)] w (WrOk D v (l ++ encRef x.reason x.code x.table x.key) w) := by
  have H := Lib.hid h
  have HV := Lib.hid hv
  have H1 := Lib.hid h1
  have H2 := Lib.hid h2
  have H3 := Lib.hid h3
  obtain ⟨w0, h0⟩ : ∃ w0, w0 = w.alloc (.cells (verdC d x a k) 36) := ⟨_, rfl⟩
  have hkA : Kept Kno w w0 := by rw [h0]; exact (Kept.refl _ _).alloc _
  have hG : Blk w0 w.heap.size 36 (verdC d x a k) := by rw [h0]; exact Blk.new _ _ _
  have hlt : D ≤ w.heap.size := Nat.le_of_lt h.lt
  have HR := Lib.hid (hr.old (hkA.old hlt (fun _ _ h => h)) (Nat.le_refl _))
  have c27 : w0.cell? ⟨w.heap.size, 27, none⟩ = some (.int .i64 x.reason) := hG.cell 27
  have c28 : w0.cell? ⟨w.heap.size, 28, none⟩ = some (.int .i64 x.code) := hG.cell 28
  have c29 : w0.cell? ⟨w.heap.size, 29, none⟩ = some (.int .i64 x.table) := hG.cell 29
  have c30 : w0.cell? ⟨w.heap.size, 30, none⟩ = some k := hG.cell 30
  have HK := Lib.hid hkA
  have HE := Lib.hid h0
  clear h hv h1 h2 h3 hr hkA hG h0
  go_enter Tryz.func184, Tryz.ntmps184
  go_upto_region 1 with (fail)
  rw [← HE.out]
  go_wp2_with fail
  refine (wrefusal_any D v k l x.reason x.code x.table x.key w0 (H.out.kept HK.out) H1.out H2.out H3.out HR.out h12 HV.out (by omega)).mono ?_
  rintro e w2 ⟨v2, rfl, hw2, hs2⟩
  have HX := Lib.hid (WrOk.new HK.out ⟨v2, rfl, hw2, hs2⟩)
  clear hw2 hs2
  go_wp2
  go_end0
  exact HX.out

set_option maxRecDepth 100000 in
theorem ent_num : Ent 149 := fun args w => by go_simp
set_option maxRecDepth 100000 in
theorem ent_args : Ent 244 := fun args w => by go_simp
set_option maxRecDepth 100000 in
theorem ent_subs : Ent 151 := fun args w => by go_simp
set_option maxRecDepth 100000 in
theorem ent_ref : Ent 184 := fun args w => by go_simp

section
variable {w1 : World} {D base : Nat} {v : Value} {p : Value × Value} {mcs : Array Value}
theorem fd_guard {X : Nat} {t : TypeId} {cs : Array Value} (hk : ∀ k, Kw D v k → k < base) (hX : base ≤ X) (hb : Blk w1 X t cs) : Gd w1 D v X t cs := ⟨hb, fun h => by have := hk X h; omega⟩
theorem fdw_num {k off : Nat} {n : Int} (h : FdIn w1 base (fdNum k) p) (hk : ∀ k, Kw D v k → k < base) (hof : OfIs k off) (hm : mcs[off]? = some (.int .i64 n)) (hn : I64 n) : FdW w1 D v (.agg mcs) p.1 (inum n) := by
  obtain ⟨X, h1, rfl, h3⟩ := h
  refine ⟨149, #[.pointer (some ⟨X, 0, none⟩)], rfl, ent_num, fun w' v' l hs hw hl => ?_⟩
  exact wfNum D X k off n mcs v' l w' hof hm hn (((fd_guard hk h1 h3).step hs).b.cell 0) hw (by omega)
theorem fdw_args {k off : Nat} {u : Value} {xs : List Val} {l0 : List UInt8} (h : FdIn w1 base (fdArgs k) p) (hk : ∀ k, Kw D v k → k < base) (hw0 : Wr w1 D v l0) (hof : OfIs k off) (hm : mcs[off]? = some u) (hr : RowB w1 D u xs) (h12 : xs.length ≤ 12) (hv : valsOk xs = true) : FdW w1 D v (.agg mcs) p.1 (renc xs) := by
  obtain ⟨X, h1, rfl, h3⟩ := h
  refine ⟨244, #[.pointer (some ⟨X, 0, none⟩)], rfl, ent_args, fun w' v' l hs hw hl => ?_⟩
  exact wfArgs D X k off u xs mcs v' l w' hof hm (hr.old (hs.old hw0 (Nat.le_refl _)) (Nat.le_refl _)).1 h12 hv (((fd_guard hk h1 h3).step hs).b.cell 0) hw (by omega)
theorem fdw_subs {k off B : Nat} {u : Value} {xs : List Sub} {l0 : List UInt8} (h : FdIn w1 base (fdSubs k) p) (hk : ∀ k, Kw D v k → k < base) (hw0 : Wr w1 D v l0) (hof : OfIs k off) (hm : mcs[off]? = some u) (hr : SubsIn w1 B u xs) (hB : B ≤ D) (hf : ∀ x ∈ xs, fitQ 1 x.q = true) : FdW w1 D v (.agg mcs) p.1 (encSubs xs) := by
  obtain ⟨X, h1, rfl, h3⟩ := h
  refine ⟨151, #[.pointer (some ⟨X, 0, none⟩)], rfl, ent_subs, fun w' v' l hs hw hl => ?_⟩
  exact wfSubs D B X k off u xs mcs v' l w' hof hm (hr.old (hs.old hw0 hB) (Nat.le_refl _)) hB hf (((fd_guard hk h1 h3).step hs).b.cell 0) hw (by omega)
theorem fdw_ref {d : Int} {x : Verd} {a k : Value} {l0 : List UInt8} (h : FdIn w1 base (fdOwn 184 186) p) (hw0 : Wr w1 D v l0) (h1 : I64 x.reason) (h2 : I64 x.code) (h3 : I64 x.table) (hr : RowB w1 D k x.key) (h12 : x.key.length ≤ 12) (hv : valsOk x.key = true) : FdW w1 D v (.agg (verdC d x a k)) p.1 (encRef x.reason x.code x.table x.key) := by
  simp only [FdIn, fdOwn] at h
  subst h
  refine ⟨184, #[], rfl, ent_ref, fun w' v' l hs hw hl => ?_⟩
  exact wfRef D d x a k v' l w' h1 h2 h3 (hr.old (hs.old hw0 (Nat.le_refl _)) (Nat.le_refl _)) h12 hv hw (by omega)
end

theorem wB_i64 {n a b : Int} (h : wB n a b = true) (ha : -9223372036854775808 ≤ a) (hb : b ≤ 9223372036854775807) : I64 n := by
  unfold wB at h
  simp only [Bool.and_eq_true, decide_eq_true_eq] at h
  exact ⟨by omega, by omega⟩
theorem realsB_valid {xs : List Val} (h : realsB xs = true) : valsOk xs = true := by
  unfold realsB at h
  unfold valsOk
  rw [List.all_eq_true] at h ⊢
  intro x hx
  have := h x hx
  unfold realB at this
  simp only [Bool.and_eq_true] at this
  exact this.1.1

/-- The bytes of a verdict. -/
def verdBs (d : Int) (x : Verd) : List (List UInt8) := [inum d, inum x.seq, inum x.proc, renc x.args, inum x.status, inum x.commit, encRef x.reason x.code x.table x.key]
def encVerd (d : Int) (x : Verd) : List UInt8 := inum 4 ++ (verdBs d x).flatten

theorem encode_verdict (d : Int) (x : Verd) (a k : Value) (w : World) (ha : RowB w w.heap.size a x.args) (hk : RowB w w.heap.size k x.key) (hv : (wB d 1 8 && verdB d x) = true) :
    Calls Tryz.prog 9 #[.agg (verdC d x a k)] w (EncOk (encVerd d x) w) := by
  have hv0 := hv
  unfold verdB callB at hv
  simp only [Bool.and_eq_true, decide_eq_true_eq] at hv
  obtain ⟨hd, ⟨⟨⟨⟨⟨⟨⟨⟨h1, ⟨⟨⟨h2, h3⟩, h4⟩, h5⟩⟩, h6⟩, h7⟩, h8⟩, h9⟩, h10⟩, h11⟩, h12⟩, h13⟩ := hv
  have v5 := realsB_valid h5
  have v13 := realsB_valid h13
  have l1 := renc_length x.args (by omega) v5
  have l2 := renc_length x.key (by omega) v13
  refine encode_ok 4 (verdC d x a k) (fdNum 85 :: verdFs) (verdBs d x) w rfl rfl ⟨by decide, by decide⟩ rfl ?_ fields_4 ?_ ?_ (by decide)
  · intro w' hk'
    have := valid_verdict d x a k w' (ha.1.kept0 hk') (hk.1.kept0 hk')
    rw [hv0] at this
    exact this
  · intro w1 D base v l ho hD hw hkw i f p b hf hb hfi
    have ra : RowB w1 D a x.args := ha.old ho hD
    have rk : RowB w1 D k x.key := hk.old ho hD
    match i, hf, hb with
    | 0, hf, hb => simp only [verdFs, verdBs, List.getElem?_cons_succ, List.getElem?_cons_zero, Option.some.injEq] at hf hb; subst hf hb; exact fdw_num hfi hkw of_fields_1 rfl (wB_i64 hd (by omega) (by omega))
    | 1, hf, hb => simp only [verdFs, verdBs, List.getElem?_cons_succ, List.getElem?_cons_zero, Option.some.injEq] at hf hb; subst hf hb; exact fdw_num hfi hkw of_verdictFields_1 rfl (wB_i64 h2 (by omega) (by omega))
    | 2, hf, hb => simp only [verdFs, verdBs, List.getElem?_cons_succ, List.getElem?_cons_zero, Option.some.injEq] at hf hb; subst hf hb; exact fdw_num hfi hkw of_verdictFields_2 rfl (wB_i64 h3 (by omega) (by omega))
    | 3, hf, hb => simp only [verdFs, verdBs, List.getElem?_cons_succ, List.getElem?_cons_zero, Option.some.injEq] at hf hb; subst hf hb; exact fdw_args hfi hkw hw of_verdictFields_3 rfl ra (by omega) v5
    | 4, hf, hb => simp only [verdFs, verdBs, List.getElem?_cons_succ, List.getElem?_cons_zero, Option.some.injEq] at hf hb; subst hf hb; exact fdw_num hfi hkw of_verdictFields_4 rfl (wB_i64 h6 (by omega) (by omega))
    | 5, hf, hb => simp only [verdFs, verdBs, List.getElem?_cons_succ, List.getElem?_cons_zero, Option.some.injEq] at hf hb; subst hf hb; exact fdw_num hfi hkw of_verdictFields_5 rfl (wB_i64 h7 (by omega) (by omega))
    | 6, hf, hb => simp only [verdFs, verdBs, List.getElem?_cons_succ, List.getElem?_cons_zero, Option.some.injEq] at hf hb; subst hf hb; exact fdw_ref hfi hw (wB_i64 h8 (by omega) (by omega)) (wB_i64 h10 (by omega) (by omega)) (wB_i64 h11 (by omega) (by omega)) rk (by omega) v13
    | j + 7, hf, hb => simp [verdBs] at hb
  · have i0 := (inum_length d).2
    have i1 := (inum_length x.seq).2
    have i2 := (inum_length x.proc).2
    have i3 := (inum_length x.status).2
    have i4 := (inum_length x.commit).2
    have i5 := (inum_length x.reason).2
    have i6 := (inum_length x.code).2
    have i7 := (inum_length x.table).2
    simp only [verdBs, encRef, List.flatten_cons, List.flatten_nil, List.length_append, List.length_nil]
    omega

/-- The bytes of a sync. -/
def syncBs (d : Int) (x : Syn) : List (List UInt8) := [inum d, inum x.round, inum x.version, inum x.budget, encSubs x.wanted, inum x.cut, encSubs x.held]
def encSync (d : Int) (x : Syn) : List UInt8 := inum 1 ++ (syncBs d x).flatten
def syncFs : List Fd := [fdNum 85, fdNum 86, fdNum 87, fdNum 88, fdSubs 90, fdNum 91, fdSubs 92]
theorem writB_fit {xs : List Sub} (h : writB xs = true) : (∀ x ∈ xs, fitQ 1 x.q = true) ∧ (encSubs xs).length ≤ 16384 := by
  unfold writB weightI at h
  split at h
  · rename_i h2
    simp only [Bool.and_eq_true, decide_eq_true_eq] at h
    exact ⟨fun x hx => wrQ_fit (okSubs_fit h2.2 x hx), by omega⟩
  · simp at h

theorem encode_sync (d : Int) (x : Syn) (a b : Value) (w : World) (ha : SubsIn w w.heap.size a x.wanted) (hb : SubsIn w w.heap.size b x.held) (hla : (encSubs x.wanted).length ≤ 500000000000) (hlb : (encSubs x.held).length ≤ 500000000000) (hv : (wB d 1 8 && syncB x) = true) :
    Calls Tryz.prog 9 #[.agg (syncC d x a b)] w (EncOk (encSync d x) w) := by
  have hv0 := hv
  unfold syncB at hv
  simp only [Bool.and_eq_true] at hv
  obtain ⟨hd, ⟨⟨⟨⟨⟨h1, h2⟩, h3⟩, h4⟩, -⟩, h6⟩, h7⟩ := hv
  obtain ⟨f6, l6⟩ := writB_fit h6
  obtain ⟨f7, l7⟩ := writB_fit h7
  refine encode_ok 1 (syncC d x a b) syncFs (syncBs d x) w rfl rfl ⟨by decide, by decide⟩ rfl ?_ fields_1 ?_ ?_ (by decide)
  · intro w' hk'
    have := valid_sync d x a b w.heap.size w' (ha.old (hk'.old (Nat.le_refl _) (fun _ _ h => h)) (Nat.le_refl _)) (hb.old (hk'.old (Nat.le_refl _) (fun _ _ h => h)) (Nat.le_refl _)) hk'.size hla hlb
    rw [hv0] at this
    exact this
  · intro w1 D base v l ho hD hw hkw i f p b' hf hbs hfi
    have ra := ha.old ho (Nat.le_refl _)
    have rb := hb.old ho (Nat.le_refl _)
    match i, hf, hbs with
    | 0, hf, hb => simp only [syncFs, syncBs, List.getElem?_cons_succ, List.getElem?_cons_zero, Option.some.injEq] at hf hb; subst hf hb; exact fdw_num hfi hkw of_fields_1 rfl (wB_i64 hd (by omega) (by omega))
    | 1, hf, hb => simp only [syncFs, syncBs, List.getElem?_cons_succ, List.getElem?_cons_zero, Option.some.injEq] at hf hb; subst hf hb; exact fdw_num hfi hkw of_fields_2 rfl (wB_i64 h1 (by omega) (by omega))
    | 2, hf, hb => simp only [syncFs, syncBs, List.getElem?_cons_succ, List.getElem?_cons_zero, Option.some.injEq] at hf hb; subst hf hb; exact fdw_num hfi hkw of_fields_3 rfl (wB_i64 h2 (by omega) (by omega))
    | 3, hf, hb => simp only [syncFs, syncBs, List.getElem?_cons_succ, List.getElem?_cons_zero, Option.some.injEq] at hf hb; subst hf hb; exact fdw_num hfi hkw of_fields_4 rfl (wB_i64 h3 (by omega) (by omega))
    | 4, hf, hb => simp only [syncFs, syncBs, List.getElem?_cons_succ, List.getElem?_cons_zero, Option.some.injEq] at hf hb; subst hf hb; exact fdw_subs hfi hkw hw of_fields_5 rfl ra hD f6
    | 5, hf, hb => simp only [syncFs, syncBs, List.getElem?_cons_succ, List.getElem?_cons_zero, Option.some.injEq] at hf hb; subst hf hb; exact fdw_num hfi hkw of_fields_6 rfl (wB_i64 h4 (by omega) (by omega))
    | 6, hf, hb => simp only [syncFs, syncBs, List.getElem?_cons_succ, List.getElem?_cons_zero, Option.some.injEq] at hf hb; subst hf hb; exact fdw_subs hfi hkw hw of_fields_7 rfl rb hD f7
    | j + 7, hf, hb => simp [syncBs] at hb
  · have i0 := (inum_length d).2
    have i1 := (inum_length x.round).2
    have i2 := (inum_length x.version).2
    have i3 := (inum_length x.budget).2
    have i4 := (inum_length x.cut).2
    simp only [syncBs, List.flatten_cons, List.flatten_nil, List.length_append, List.length_nil]
    omega
theorem encode_sync_bad (d : Int) (x : Syn) (a b : Value) (w : World) (ha : SubsIn w w.heap.size a x.wanted) (hb : SubsIn w w.heap.size b x.held) (hla : (encSubs x.wanted).length ≤ 500000000000) (hlb : (encSubs x.held).length ≤ 500000000000) (hv : (wB d 1 8 && syncB x) = false) :
    Calls Tryz.prog 9 #[.agg (syncC d x a b)] w fun e w' => e = .returned (.tuple #[.slice none 0 0, .int .i64 300]) ∧ Kept Kno w w' := by
  refine encode_bad _ w rfl fun w' hk' => ?_
  have := valid_sync d x a b w.heap.size w' (ha.old (hk'.old (Nat.le_refl _) (fun _ _ h => h)) (Nat.le_refl _)) (hb.old (hk'.old (Nat.le_refl _) (fun _ _ h => h)) (Nat.le_refl _)) hk'.size hla hlb
  rw [hv] at this
  exact this

end Go.Proofs.YtffdaohmalmkfaaGreat
