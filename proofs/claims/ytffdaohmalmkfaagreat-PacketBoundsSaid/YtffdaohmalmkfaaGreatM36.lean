/-
  Contracts and plain laws that the claim's theorem rests on, some texts in one file.
-/
import Derived.Test.YtffdaohmalmkfaaGreatM35
/-
  Packet's reference: sameSubmission, SameRefusal, SameVerdict, Same at the same things. (Printed by gen_pakrl.py.)
-/
namespace Go.Proofs.YtffdaohmalmkfaaGreat
open Go.RowKit
set_option linter.unusedVariables false

set_option maxRecDepth 100000 in
set_option maxHeartbeats 4000000 in
theorem xsameSubmission (dev seq proc : Int) (rec : Bool) {aA aA' : Option Addr} {an ac an' ac' : Nat} {rA rA' : Option Addr} {rn rc rn' rc' : Nat} (xs : List Val) (w : World) (ha : RowIn w (.slice aA an ac) xs) (ha' : RowIn w (.slice aA' an' ac') xs) (hr : ∀ w', Kept Kno w w' → Calls Tryz.prog 99 #[.slice rA rn rc, .slice rA' rn' rc'] w' (RetBool true w')) :
    Calls Tryz.prog 41 #[.agg #[.int .i64 dev, .int .i64 seq, .int .i64 proc, .slice aA an ac, .bool rec, .slice rA rn rc], .agg #[.int .i64 dev, .int .i64 seq, .int .i64 proc, .slice aA' an' ac', .bool rec, .slice rA' rn' rc']] w (RetBool true w) := by
  have HA := Lib.hid ha
  have HA' := Lib.hid ha'
  have HR := Lib.hid hr
  clear ha ha' hr
  have hkA : Kept Kno w ((w.alloc (.cells #[.int .i64 dev, .int .i64 seq, .int .i64 proc, .slice aA an ac, .bool rec, .slice rA rn rc] 29)).alloc (.cells #[.int .i64 dev, .int .i64 seq, .int .i64 proc, .slice aA' an' ac', .bool rec, .slice rA' rn' rc'] 29)) := ((Kept.refl _ _).alloc _).alloc _
  have hGA : Blk ((w.alloc (.cells #[.int .i64 dev, .int .i64 seq, .int .i64 proc, .slice aA an ac, .bool rec, .slice rA rn rc] 29)).alloc (.cells #[.int .i64 dev, .int .i64 seq, .int .i64 proc, .slice aA' an' ac', .bool rec, .slice rA' rn' rc'] 29)) w.heap.size 29 #[.int .i64 dev, .int .i64 seq, .int .i64 proc, .slice aA an ac, .bool rec, .slice rA rn rc] := (Blk.new _ _ _).alloc _
  have hGB : Blk ((w.alloc (.cells #[.int .i64 dev, .int .i64 seq, .int .i64 proc, .slice aA an ac, .bool rec, .slice rA rn rc] 29)).alloc (.cells #[.int .i64 dev, .int .i64 seq, .int .i64 proc, .slice aA' an' ac', .bool rec, .slice rA' rn' rc'] 29)) (w.heap.size + 1) 29 #[.int .i64 dev, .int .i64 seq, .int .i64 proc, .slice aA' an' ac', .bool rec, .slice rA' rn' rc'] := by
    have := Blk.new (w.alloc (.cells #[.int .i64 dev, .int .i64 seq, .int .i64 proc, .slice aA an ac, .bool rec, .slice rA rn rc] 29)) 29 #[.int .i64 dev, .int .i64 seq, .int .i64 proc, .slice aA' an' ac', .bool rec, .slice rA' rn' rc']
    rw [size_alloc'] at this
    exact this
  have HK0 := Lib.hid hkA
  have HG0 := Lib.hid hGA
  have HH0 := Lib.hid hGB
  clear hkA hGA hGB
  go_enter Tryz.func41, Tryz.ntmps41
  go_wp2_with fail
  refine (compareRows_same _ _ xs _ (HA.out.kept0 HK0.out) (HA'.out.kept0 HK0.out)).mono ?_
  rintro e w1 ⟨rfl, hk1⟩
  have HK1 := Lib.hid (HK0.out.then0 hk1)
  have HG1 := Lib.hid (HG0.out.kept hk1 (fun h => h))
  have HH1 := Lib.hid (HH0.out.kept hk1 (fun h => h))
  clear hk1 HK0 HG0 HH0
  have c0 : w1.cell? ⟨w.heap.size, 0, none⟩ = some (.int .i64 dev) := HG1.out.cell 0
  have d0 : w1.cell? ⟨w.heap.size + 1, 0, none⟩ = some (.int .i64 dev) := HH1.out.cell 0
  have c1 : w1.cell? ⟨w.heap.size, 1, none⟩ = some (.int .i64 seq) := HG1.out.cell 1
  have d1 : w1.cell? ⟨w.heap.size + 1, 1, none⟩ = some (.int .i64 seq) := HH1.out.cell 1
  have c2 : w1.cell? ⟨w.heap.size, 2, none⟩ = some (.int .i64 proc) := HG1.out.cell 2
  have d2 : w1.cell? ⟨w.heap.size + 1, 2, none⟩ = some (.int .i64 proc) := HH1.out.cell 2
  have c3 : w1.cell? ⟨w.heap.size, 3, none⟩ = some (.slice aA an ac) := HG1.out.cell 3
  have d3 : w1.cell? ⟨w.heap.size + 1, 3, none⟩ = some (.slice aA' an' ac') := HH1.out.cell 3
  have c4 : w1.cell? ⟨w.heap.size, 4, none⟩ = some (.bool rec) := HG1.out.cell 4
  have d4 : w1.cell? ⟨w.heap.size + 1, 4, none⟩ = some (.bool rec) := HH1.out.cell 4
  have c5 : w1.cell? ⟨w.heap.size, 5, none⟩ = some (.slice rA rn rc) := HG1.out.cell 5
  have d5 : w1.cell? ⟨w.heap.size + 1, 5, none⟩ = some (.slice rA' rn' rc') := HH1.out.cell 5
  go_wp2_with fail
  refine (HR.out _ HK1.out).mono ?_
  rintro e w2 ⟨rfl, hk2⟩
  have HK2 := Lib.hid (HK1.out.then0 hk2)
  have HG2 := Lib.hid (HG1.out.kept hk2 (fun h => h))
  have HH2 := Lib.hid (HH1.out.kept hk2 (fun h => h))
  clear hk2 HK1 HG1 HH1
  clear c0 d0 c1 d1 c2 d2 c3 d3 c4 d4 c5 d5
  have c0 : w2.cell? ⟨w.heap.size, 0, none⟩ = some (.int .i64 dev) := HG2.out.cell 0
  have d0 : w2.cell? ⟨w.heap.size + 1, 0, none⟩ = some (.int .i64 dev) := HH2.out.cell 0
  have c1 : w2.cell? ⟨w.heap.size, 1, none⟩ = some (.int .i64 seq) := HG2.out.cell 1
  have d1 : w2.cell? ⟨w.heap.size + 1, 1, none⟩ = some (.int .i64 seq) := HH2.out.cell 1
  have c2 : w2.cell? ⟨w.heap.size, 2, none⟩ = some (.int .i64 proc) := HG2.out.cell 2
  have d2 : w2.cell? ⟨w.heap.size + 1, 2, none⟩ = some (.int .i64 proc) := HH2.out.cell 2
  have c3 : w2.cell? ⟨w.heap.size, 3, none⟩ = some (.slice aA an ac) := HG2.out.cell 3
  have d3 : w2.cell? ⟨w.heap.size + 1, 3, none⟩ = some (.slice aA' an' ac') := HH2.out.cell 3
  have c4 : w2.cell? ⟨w.heap.size, 4, none⟩ = some (.bool rec) := HG2.out.cell 4
  have d4 : w2.cell? ⟨w.heap.size + 1, 4, none⟩ = some (.bool rec) := HH2.out.cell 4
  have c5 : w2.cell? ⟨w.heap.size, 5, none⟩ = some (.slice rA rn rc) := HG2.out.cell 5
  have d5 : w2.cell? ⟨w.heap.size + 1, 5, none⟩ = some (.slice rA' rn' rc') := HH2.out.cell 5
  have HX : Hid (RetBool true w (.returned (.bool true)) w2) := Lib.hid ⟨rfl, HK2.out⟩
  go_wp2
  go_ret
  exact HX.out

set_option maxRecDepth 100000 in
set_option maxHeartbeats 4000000 in
theorem xsameRefusal (rs cd tb : Int) {kA kA' : Option Addr} {kn kc kn' kc' : Nat} (xs : List Val) (w : World) (ha : RowIn w (.slice kA kn kc) xs) (ha' : RowIn w (.slice kA' kn' kc') xs) :
    Calls Tryz.prog 100 #[.agg #[.int .i64 rs, .int .i64 cd, .int .i64 tb, .slice kA kn kc], .agg #[.int .i64 rs, .int .i64 cd, .int .i64 tb, .slice kA' kn' kc']] w (RetBool true w) := by
  have HA := Lib.hid ha
  have HA' := Lib.hid ha'
  clear ha ha'
  have hkA : Kept Kno w ((w.alloc (.cells #[.int .i64 rs, .int .i64 cd, .int .i64 tb, .slice kA kn kc] 32)).alloc (.cells #[.int .i64 rs, .int .i64 cd, .int .i64 tb, .slice kA' kn' kc'] 32)) := ((Kept.refl _ _).alloc _).alloc _
  have hGA : Blk ((w.alloc (.cells #[.int .i64 rs, .int .i64 cd, .int .i64 tb, .slice kA kn kc] 32)).alloc (.cells #[.int .i64 rs, .int .i64 cd, .int .i64 tb, .slice kA' kn' kc'] 32)) w.heap.size 32 #[.int .i64 rs, .int .i64 cd, .int .i64 tb, .slice kA kn kc] := (Blk.new _ _ _).alloc _
  have hGB : Blk ((w.alloc (.cells #[.int .i64 rs, .int .i64 cd, .int .i64 tb, .slice kA kn kc] 32)).alloc (.cells #[.int .i64 rs, .int .i64 cd, .int .i64 tb, .slice kA' kn' kc'] 32)) (w.heap.size + 1) 32 #[.int .i64 rs, .int .i64 cd, .int .i64 tb, .slice kA' kn' kc'] := by
    have := Blk.new (w.alloc (.cells #[.int .i64 rs, .int .i64 cd, .int .i64 tb, .slice kA kn kc] 32)) 32 #[.int .i64 rs, .int .i64 cd, .int .i64 tb, .slice kA' kn' kc']
    rw [size_alloc'] at this
    exact this
  have HK0 := Lib.hid hkA
  have HG0 := Lib.hid hGA
  have HH0 := Lib.hid hGB
  clear hkA hGA hGB
  go_enter Tryz.func100, Tryz.ntmps100
  go_wp2_with fail
  refine (compareRows_same _ _ xs _ (HA.out.kept0 HK0.out) (HA'.out.kept0 HK0.out)).mono ?_
  rintro e w1 ⟨rfl, hk1⟩
  have HK1 := Lib.hid (HK0.out.then0 hk1)
  have HG1 := Lib.hid (HG0.out.kept hk1 (fun h => h))
  have HH1 := Lib.hid (HH0.out.kept hk1 (fun h => h))
  clear hk1 HK0 HG0 HH0
  have c0 : w1.cell? ⟨w.heap.size, 0, none⟩ = some (.int .i64 rs) := HG1.out.cell 0
  have d0 : w1.cell? ⟨w.heap.size + 1, 0, none⟩ = some (.int .i64 rs) := HH1.out.cell 0
  have c1 : w1.cell? ⟨w.heap.size, 1, none⟩ = some (.int .i64 cd) := HG1.out.cell 1
  have d1 : w1.cell? ⟨w.heap.size + 1, 1, none⟩ = some (.int .i64 cd) := HH1.out.cell 1
  have c2 : w1.cell? ⟨w.heap.size, 2, none⟩ = some (.int .i64 tb) := HG1.out.cell 2
  have d2 : w1.cell? ⟨w.heap.size + 1, 2, none⟩ = some (.int .i64 tb) := HH1.out.cell 2
  have c3 : w1.cell? ⟨w.heap.size, 3, none⟩ = some (.slice kA kn kc) := HG1.out.cell 3
  have d3 : w1.cell? ⟨w.heap.size + 1, 3, none⟩ = some (.slice kA' kn' kc') := HH1.out.cell 3
  have HX : Hid (RetBool true w (.returned (.bool true)) w1) := Lib.hid ⟨rfl, HK1.out⟩
  go_wp2
  go_ret
  exact HX.out

set_option maxRecDepth 100000 in
set_option maxHeartbeats 4000000 in
theorem xsameVerdict (dev seq proc st cm rs cd tb : Int) {aA aA' : Option Addr} {an ac an' ac' : Nat} {kA kA' : Option Addr} {kn kc kn' kc' : Nat} (xs ys : List Val) (w : World) (ha : RowIn w (.slice aA an ac) xs) (ha' : RowIn w (.slice aA' an' ac') xs) (hb : RowIn w (.slice kA kn kc) ys) (hb' : RowIn w (.slice kA' kn' kc') ys) :
    Calls Tryz.prog 42 #[.agg #[.int .i64 dev, .int .i64 seq, .int .i64 proc, .slice aA an ac, .int .i64 st, .int .i64 cm, .int .i64 rs, .int .i64 cd, .int .i64 tb, .slice kA kn kc], .agg #[.int .i64 dev, .int .i64 seq, .int .i64 proc, .slice aA' an' ac', .int .i64 st, .int .i64 cm, .int .i64 rs, .int .i64 cd, .int .i64 tb, .slice kA' kn' kc']] w (RetBool true w) := by
  have HA := Lib.hid ha
  have HA' := Lib.hid ha'
  have HB := Lib.hid hb
  have HB' := Lib.hid hb'
  clear ha ha' hb hb'
  have hkA : Kept Kno w ((w.alloc (.cells #[.int .i64 dev, .int .i64 seq, .int .i64 proc, .slice aA an ac, .int .i64 st, .int .i64 cm, .int .i64 rs, .int .i64 cd, .int .i64 tb, .slice kA kn kc] 34)).alloc (.cells #[.int .i64 dev, .int .i64 seq, .int .i64 proc, .slice aA' an' ac', .int .i64 st, .int .i64 cm, .int .i64 rs, .int .i64 cd, .int .i64 tb, .slice kA' kn' kc'] 34)) := ((Kept.refl _ _).alloc _).alloc _
  have hGA : Blk ((w.alloc (.cells #[.int .i64 dev, .int .i64 seq, .int .i64 proc, .slice aA an ac, .int .i64 st, .int .i64 cm, .int .i64 rs, .int .i64 cd, .int .i64 tb, .slice kA kn kc] 34)).alloc (.cells #[.int .i64 dev, .int .i64 seq, .int .i64 proc, .slice aA' an' ac', .int .i64 st, .int .i64 cm, .int .i64 rs, .int .i64 cd, .int .i64 tb, .slice kA' kn' kc'] 34)) w.heap.size 34 #[.int .i64 dev, .int .i64 seq, .int .i64 proc, .slice aA an ac, .int .i64 st, .int .i64 cm, .int .i64 rs, .int .i64 cd, .int .i64 tb, .slice kA kn kc] := (Blk.new _ _ _).alloc _
  have hGB : Blk ((w.alloc (.cells #[.int .i64 dev, .int .i64 seq, .int .i64 proc, .slice aA an ac, .int .i64 st, .int .i64 cm, .int .i64 rs, .int .i64 cd, .int .i64 tb, .slice kA kn kc] 34)).alloc (.cells #[.int .i64 dev, .int .i64 seq, .int .i64 proc, .slice aA' an' ac', .int .i64 st, .int .i64 cm, .int .i64 rs, .int .i64 cd, .int .i64 tb, .slice kA' kn' kc'] 34)) (w.heap.size + 1) 34 #[.int .i64 dev, .int .i64 seq, .int .i64 proc, .slice aA' an' ac', .int .i64 st, .int .i64 cm, .int .i64 rs, .int .i64 cd, .int .i64 tb, .slice kA' kn' kc'] := by
    have := Blk.new (w.alloc (.cells #[.int .i64 dev, .int .i64 seq, .int .i64 proc, .slice aA an ac, .int .i64 st, .int .i64 cm, .int .i64 rs, .int .i64 cd, .int .i64 tb, .slice kA kn kc] 34)) 34 #[.int .i64 dev, .int .i64 seq, .int .i64 proc, .slice aA' an' ac', .int .i64 st, .int .i64 cm, .int .i64 rs, .int .i64 cd, .int .i64 tb, .slice kA' kn' kc']
    rw [size_alloc'] at this
    exact this
  have HK0 := Lib.hid hkA
  have HG0 := Lib.hid hGA
  have HH0 := Lib.hid hGB
  clear hkA hGA hGB
  go_enter Tryz.func42, Tryz.ntmps42
  go_wp2_with fail
  refine (compareRows_same _ _ xs _ (HA.out.kept0 HK0.out) (HA'.out.kept0 HK0.out)).mono ?_
  rintro e w1 ⟨rfl, hk1⟩
  have HK1 := Lib.hid (HK0.out.then0 hk1)
  have HG1 := Lib.hid (HG0.out.kept hk1 (fun h => h))
  have HH1 := Lib.hid (HH0.out.kept hk1 (fun h => h))
  clear hk1 HK0 HG0 HH0
  have c0 : w1.cell? ⟨w.heap.size, 0, none⟩ = some (.int .i64 dev) := HG1.out.cell 0
  have d0 : w1.cell? ⟨w.heap.size + 1, 0, none⟩ = some (.int .i64 dev) := HH1.out.cell 0
  have c1 : w1.cell? ⟨w.heap.size, 1, none⟩ = some (.int .i64 seq) := HG1.out.cell 1
  have d1 : w1.cell? ⟨w.heap.size + 1, 1, none⟩ = some (.int .i64 seq) := HH1.out.cell 1
  have c2 : w1.cell? ⟨w.heap.size, 2, none⟩ = some (.int .i64 proc) := HG1.out.cell 2
  have d2 : w1.cell? ⟨w.heap.size + 1, 2, none⟩ = some (.int .i64 proc) := HH1.out.cell 2
  have c3 : w1.cell? ⟨w.heap.size, 3, none⟩ = some (.slice aA an ac) := HG1.out.cell 3
  have d3 : w1.cell? ⟨w.heap.size + 1, 3, none⟩ = some (.slice aA' an' ac') := HH1.out.cell 3
  have c4 : w1.cell? ⟨w.heap.size, 4, none⟩ = some (.int .i64 st) := HG1.out.cell 4
  have d4 : w1.cell? ⟨w.heap.size + 1, 4, none⟩ = some (.int .i64 st) := HH1.out.cell 4
  have c5 : w1.cell? ⟨w.heap.size, 5, none⟩ = some (.int .i64 cm) := HG1.out.cell 5
  have d5 : w1.cell? ⟨w.heap.size + 1, 5, none⟩ = some (.int .i64 cm) := HH1.out.cell 5
  have c6 : w1.cell? ⟨w.heap.size, 6, none⟩ = some (.int .i64 rs) := HG1.out.cell 6
  have d6 : w1.cell? ⟨w.heap.size + 1, 6, none⟩ = some (.int .i64 rs) := HH1.out.cell 6
  have c7 : w1.cell? ⟨w.heap.size, 7, none⟩ = some (.int .i64 cd) := HG1.out.cell 7
  have d7 : w1.cell? ⟨w.heap.size + 1, 7, none⟩ = some (.int .i64 cd) := HH1.out.cell 7
  have c8 : w1.cell? ⟨w.heap.size, 8, none⟩ = some (.int .i64 tb) := HG1.out.cell 8
  have d8 : w1.cell? ⟨w.heap.size + 1, 8, none⟩ = some (.int .i64 tb) := HH1.out.cell 8
  have c9 : w1.cell? ⟨w.heap.size, 9, none⟩ = some (.slice kA kn kc) := HG1.out.cell 9
  have d9 : w1.cell? ⟨w.heap.size + 1, 9, none⟩ = some (.slice kA' kn' kc') := HH1.out.cell 9
  go_wp2_with fail
  refine (xsameRefusal rs cd tb ys _ (HB.out.kept0 HK1.out) (HB'.out.kept0 HK1.out)).mono ?_
  rintro e w2 ⟨rfl, hk2⟩
  have HK2 := Lib.hid (HK1.out.then0 hk2)
  have HG2 := Lib.hid (HG1.out.kept hk2 (fun h => h))
  have HH2 := Lib.hid (HH1.out.kept hk2 (fun h => h))
  clear hk2 HK1 HG1 HH1
  clear c0 d0 c1 d1 c2 d2 c3 d3 c4 d4 c5 d5 c6 d6 c7 d7 c8 d8 c9 d9
  have c0 : w2.cell? ⟨w.heap.size, 0, none⟩ = some (.int .i64 dev) := HG2.out.cell 0
  have d0 : w2.cell? ⟨w.heap.size + 1, 0, none⟩ = some (.int .i64 dev) := HH2.out.cell 0
  have c1 : w2.cell? ⟨w.heap.size, 1, none⟩ = some (.int .i64 seq) := HG2.out.cell 1
  have d1 : w2.cell? ⟨w.heap.size + 1, 1, none⟩ = some (.int .i64 seq) := HH2.out.cell 1
  have c2 : w2.cell? ⟨w.heap.size, 2, none⟩ = some (.int .i64 proc) := HG2.out.cell 2
  have d2 : w2.cell? ⟨w.heap.size + 1, 2, none⟩ = some (.int .i64 proc) := HH2.out.cell 2
  have c3 : w2.cell? ⟨w.heap.size, 3, none⟩ = some (.slice aA an ac) := HG2.out.cell 3
  have d3 : w2.cell? ⟨w.heap.size + 1, 3, none⟩ = some (.slice aA' an' ac') := HH2.out.cell 3
  have c4 : w2.cell? ⟨w.heap.size, 4, none⟩ = some (.int .i64 st) := HG2.out.cell 4
  have d4 : w2.cell? ⟨w.heap.size + 1, 4, none⟩ = some (.int .i64 st) := HH2.out.cell 4
  have c5 : w2.cell? ⟨w.heap.size, 5, none⟩ = some (.int .i64 cm) := HG2.out.cell 5
  have d5 : w2.cell? ⟨w.heap.size + 1, 5, none⟩ = some (.int .i64 cm) := HH2.out.cell 5
  have c6 : w2.cell? ⟨w.heap.size, 6, none⟩ = some (.int .i64 rs) := HG2.out.cell 6
  have d6 : w2.cell? ⟨w.heap.size + 1, 6, none⟩ = some (.int .i64 rs) := HH2.out.cell 6
  have c7 : w2.cell? ⟨w.heap.size, 7, none⟩ = some (.int .i64 cd) := HG2.out.cell 7
  have d7 : w2.cell? ⟨w.heap.size + 1, 7, none⟩ = some (.int .i64 cd) := HH2.out.cell 7
  have c8 : w2.cell? ⟨w.heap.size, 8, none⟩ = some (.int .i64 tb) := HG2.out.cell 8
  have d8 : w2.cell? ⟨w.heap.size + 1, 8, none⟩ = some (.int .i64 tb) := HH2.out.cell 8
  have c9 : w2.cell? ⟨w.heap.size, 9, none⟩ = some (.slice kA kn kc) := HG2.out.cell 9
  have d9 : w2.cell? ⟨w.heap.size + 1, 9, none⟩ = some (.slice kA' kn' kc') := HH2.out.cell 9
  have HX : Hid (RetBool true w (.returned (.bool true)) w2) := Lib.hid ⟨rfl, HK2.out⟩
  go_wp2
  go_ret
  exact HX.out

set_option maxRecDepth 100000 in
set_option maxHeartbeats 4000000 in
theorem xsame_any (kind dev round version budget cut fr tO dec part parts sdev sseq sproc vdev vseq vproc vst vcm vrs vcd vtb : Int) (srec : Bool) {wA wA' : Option Addr} {wn wc wn' wc' : Nat} {hA hA' : Option Addr} {hn hc hn' hc' : Nat} {kA kA' : Option Addr} {kn kc kn' kc' : Nat} {eA eA' : Option Addr} {en ec en' ec' : Nat} {saA saA' : Option Addr} {san sac san' sac' : Nat} {srA srA' : Option Addr} {srn src srn' src' : Nat} {vaA vaA' : Option Addr} {van vac van' vac' : Nat} {vkA vkA' : Option Addr} {vkn vkc vkn' vkc' : Nat} (w : World) (h1 : ∀ w', Kept Kno w w' → Calls Tryz.prog 39 #[.slice wA wn wc, .slice wA' wn' wc'] w' (RetBool true w')) (h2 : ∀ w', Kept Kno w w' → Calls Tryz.prog 39 #[.slice hA hn hc, .slice hA' hn' hc'] w' (RetBool true w')) (h3 : ∀ w', Kept Kno w w' → Calls Tryz.prog 40 #[.slice kA kn kc, .slice kA' kn' kc'] w' (RetBool true w')) (h4 : ∀ w', Kept Kno w w' → Calls Tryz.prog 23 #[.slice eA en ec, .slice eA' en' ec'] w' (RetBool true w')) (h5 : ∀ w', Kept Kno w w' → Calls Tryz.prog 41 #[.agg #[.int .i64 sdev, .int .i64 sseq, .int .i64 sproc, .slice saA san sac, .bool srec, .slice srA srn src], .agg #[.int .i64 sdev, .int .i64 sseq, .int .i64 sproc, .slice saA' san' sac', .bool srec, .slice srA' srn' src']] w' (RetBool true w')) (h6 : ∀ w', Kept Kno w w' → Calls Tryz.prog 42 #[.agg #[.int .i64 vdev, .int .i64 vseq, .int .i64 vproc, .slice vaA van vac, .int .i64 vst, .int .i64 vcm, .int .i64 vrs, .int .i64 vcd, .int .i64 vtb, .slice vkA vkn vkc], .agg #[.int .i64 vdev, .int .i64 vseq, .int .i64 vproc, .slice vaA' van' vac', .int .i64 vst, .int .i64 vcm, .int .i64 vrs, .int .i64 vcd, .int .i64 vtb, .slice vkA' vkn' vkc']] w' (RetBool true w')) :
    Calls Tryz.prog 12 #[.agg #[.int .i64 kind, .int .i64 dev, .int .i64 round, .int .i64 version, .int .i64 budget, .slice wA wn wc, .int .i64 cut, .slice hA hn hc, .int .i64 fr, .int .i64 tO, .slice kA kn kc, .int .i64 dec, .int .i64 part, .int .i64 parts, .slice eA en ec, .int .i64 sdev, .int .i64 sseq, .int .i64 sproc, .slice saA san sac, .bool srec, .slice srA srn src, .int .i64 vdev, .int .i64 vseq, .int .i64 vproc, .slice vaA van vac, .int .i64 vst, .int .i64 vcm, .int .i64 vrs, .int .i64 vcd, .int .i64 vtb, .slice vkA vkn vkc], .agg #[.int .i64 kind, .int .i64 dev, .int .i64 round, .int .i64 version, .int .i64 budget, .slice wA' wn' wc', .int .i64 cut, .slice hA' hn' hc', .int .i64 fr, .int .i64 tO, .slice kA' kn' kc', .int .i64 dec, .int .i64 part, .int .i64 parts, .slice eA' en' ec', .int .i64 sdev, .int .i64 sseq, .int .i64 sproc, .slice saA' san' sac', .bool srec, .slice srA' srn' src', .int .i64 vdev, .int .i64 vseq, .int .i64 vproc, .slice vaA' van' vac', .int .i64 vst, .int .i64 vcm, .int .i64 vrs, .int .i64 vcd, .int .i64 vtb, .slice vkA' vkn' vkc']] w (RetBool true w) := by
  have H1 := Lib.hid h1
  have H2 := Lib.hid h2
  have H3 := Lib.hid h3
  have H4 := Lib.hid h4
  have H5 := Lib.hid h5
  have H6 := Lib.hid h6
  clear h1 h2 h3 h4 h5 h6
  have hkA : Kept Kno w ((w.alloc (.cells #[.int .i64 kind, .int .i64 dev, .int .i64 round, .int .i64 version, .int .i64 budget, .slice wA wn wc, .int .i64 cut, .slice hA hn hc, .int .i64 fr, .int .i64 tO, .slice kA kn kc, .int .i64 dec, .int .i64 part, .int .i64 parts, .slice eA en ec, .int .i64 sdev, .int .i64 sseq, .int .i64 sproc, .slice saA san sac, .bool srec, .slice srA srn src, .int .i64 vdev, .int .i64 vseq, .int .i64 vproc, .slice vaA van vac, .int .i64 vst, .int .i64 vcm, .int .i64 vrs, .int .i64 vcd, .int .i64 vtb, .slice vkA vkn vkc] 36)).alloc (.cells #[.int .i64 kind, .int .i64 dev, .int .i64 round, .int .i64 version, .int .i64 budget, .slice wA' wn' wc', .int .i64 cut, .slice hA' hn' hc', .int .i64 fr, .int .i64 tO, .slice kA' kn' kc', .int .i64 dec, .int .i64 part, .int .i64 parts, .slice eA' en' ec', .int .i64 sdev, .int .i64 sseq, .int .i64 sproc, .slice saA' san' sac', .bool srec, .slice srA' srn' src', .int .i64 vdev, .int .i64 vseq, .int .i64 vproc, .slice vaA' van' vac', .int .i64 vst, .int .i64 vcm, .int .i64 vrs, .int .i64 vcd, .int .i64 vtb, .slice vkA' vkn' vkc'] 36)) := ((Kept.refl _ _).alloc _).alloc _
  have hGA : Blk ((w.alloc (.cells #[.int .i64 kind, .int .i64 dev, .int .i64 round, .int .i64 version, .int .i64 budget, .slice wA wn wc, .int .i64 cut, .slice hA hn hc, .int .i64 fr, .int .i64 tO, .slice kA kn kc, .int .i64 dec, .int .i64 part, .int .i64 parts, .slice eA en ec, .int .i64 sdev, .int .i64 sseq, .int .i64 sproc, .slice saA san sac, .bool srec, .slice srA srn src, .int .i64 vdev, .int .i64 vseq, .int .i64 vproc, .slice vaA van vac, .int .i64 vst, .int .i64 vcm, .int .i64 vrs, .int .i64 vcd, .int .i64 vtb, .slice vkA vkn vkc] 36)).alloc (.cells #[.int .i64 kind, .int .i64 dev, .int .i64 round, .int .i64 version, .int .i64 budget, .slice wA' wn' wc', .int .i64 cut, .slice hA' hn' hc', .int .i64 fr, .int .i64 tO, .slice kA' kn' kc', .int .i64 dec, .int .i64 part, .int .i64 parts, .slice eA' en' ec', .int .i64 sdev, .int .i64 sseq, .int .i64 sproc, .slice saA' san' sac', .bool srec, .slice srA' srn' src', .int .i64 vdev, .int .i64 vseq, .int .i64 vproc, .slice vaA' van' vac', .int .i64 vst, .int .i64 vcm, .int .i64 vrs, .int .i64 vcd, .int .i64 vtb, .slice vkA' vkn' vkc'] 36)) w.heap.size 36 #[.int .i64 kind, .int .i64 dev, .int .i64 round, .int .i64 version, .int .i64 budget, .slice wA wn wc, .int .i64 cut, .slice hA hn hc, .int .i64 fr, .int .i64 tO, .slice kA kn kc, .int .i64 dec, .int .i64 part, .int .i64 parts, .slice eA en ec, .int .i64 sdev, .int .i64 sseq, .int .i64 sproc, .slice saA san sac, .bool srec, .slice srA srn src, .int .i64 vdev, .int .i64 vseq, .int .i64 vproc, .slice vaA van vac, .int .i64 vst, .int .i64 vcm, .int .i64 vrs, .int .i64 vcd, .int .i64 vtb, .slice vkA vkn vkc] := (Blk.new _ _ _).alloc _
  have hGB : Blk ((w.alloc (.cells #[.int .i64 kind, .int .i64 dev, .int .i64 round, .int .i64 version, .int .i64 budget, .slice wA wn wc, .int .i64 cut, .slice hA hn hc, .int .i64 fr, .int .i64 tO, .slice kA kn kc, .int .i64 dec, .int .i64 part, .int .i64 parts, .slice eA en ec, .int .i64 sdev, .int .i64 sseq, .int .i64 sproc, .slice saA san sac, .bool srec, .slice srA srn src, .int .i64 vdev, .int .i64 vseq, .int .i64 vproc, .slice vaA van vac, .int .i64 vst, .int .i64 vcm, .int .i64 vrs, .int .i64 vcd, .int .i64 vtb, .slice vkA vkn vkc] 36)).alloc (.cells #[.int .i64 kind, .int .i64 dev, .int .i64 round, .int .i64 version, .int .i64 budget, .slice wA' wn' wc', .int .i64 cut, .slice hA' hn' hc', .int .i64 fr, .int .i64 tO, .slice kA' kn' kc', .int .i64 dec, .int .i64 part, .int .i64 parts, .slice eA' en' ec', .int .i64 sdev, .int .i64 sseq, .int .i64 sproc, .slice saA' san' sac', .bool srec, .slice srA' srn' src', .int .i64 vdev, .int .i64 vseq, .int .i64 vproc, .slice vaA' van' vac', .int .i64 vst, .int .i64 vcm, .int .i64 vrs, .int .i64 vcd, .int .i64 vtb, .slice vkA' vkn' vkc'] 36)) (w.heap.size + 1) 36 #[.int .i64 kind, .int .i64 dev, .int .i64 round, .int .i64 version, .int .i64 budget, .slice wA' wn' wc', .int .i64 cut, .slice hA' hn' hc', .int .i64 fr, .int .i64 tO, .slice kA' kn' kc', .int .i64 dec, .int .i64 part, .int .i64 parts, .slice eA' en' ec', .int .i64 sdev, .int .i64 sseq, .int .i64 sproc, .slice saA' san' sac', .bool srec, .slice srA' srn' src', .int .i64 vdev, .int .i64 vseq, .int .i64 vproc, .slice vaA' van' vac', .int .i64 vst, .int .i64 vcm, .int .i64 vrs, .int .i64 vcd, .int .i64 vtb, .slice vkA' vkn' vkc'] := by
    have := Blk.new (w.alloc (.cells #[.int .i64 kind, .int .i64 dev, .int .i64 round, .int .i64 version, .int .i64 budget, .slice wA wn wc, .int .i64 cut, .slice hA hn hc, .int .i64 fr, .int .i64 tO, .slice kA kn kc, .int .i64 dec, .int .i64 part, .int .i64 parts, .slice eA en ec, .int .i64 sdev, .int .i64 sseq, .int .i64 sproc, .slice saA san sac, .bool srec, .slice srA srn src, .int .i64 vdev, .int .i64 vseq, .int .i64 vproc, .slice vaA van vac, .int .i64 vst, .int .i64 vcm, .int .i64 vrs, .int .i64 vcd, .int .i64 vtb, .slice vkA vkn vkc] 36)) 36 #[.int .i64 kind, .int .i64 dev, .int .i64 round, .int .i64 version, .int .i64 budget, .slice wA' wn' wc', .int .i64 cut, .slice hA' hn' hc', .int .i64 fr, .int .i64 tO, .slice kA' kn' kc', .int .i64 dec, .int .i64 part, .int .i64 parts, .slice eA' en' ec', .int .i64 sdev, .int .i64 sseq, .int .i64 sproc, .slice saA' san' sac', .bool srec, .slice srA' srn' src', .int .i64 vdev, .int .i64 vseq, .int .i64 vproc, .slice vaA' van' vac', .int .i64 vst, .int .i64 vcm, .int .i64 vrs, .int .i64 vcd, .int .i64 vtb, .slice vkA' vkn' vkc']
    rw [size_alloc'] at this
    exact this
  have HK0 := Lib.hid hkA
  have HG0 := Lib.hid hGA
  have HH0 := Lib.hid hGB
  clear hkA hGA hGB
  go_enter Tryz.func12, Tryz.ntmps12
  go_wp2_with fail
  refine (H1.out _ HK0.out).mono ?_
  rintro e w1 ⟨rfl, hk1⟩
  have HK1 := Lib.hid (HK0.out.then0 hk1)
  have HG1 := Lib.hid (HG0.out.kept hk1 (fun h => h))
  have HH1 := Lib.hid (HH0.out.kept hk1 (fun h => h))
  clear hk1 HK0 HG0 HH0
  have c0 : w1.cell? ⟨w.heap.size, 0, none⟩ = some (.int .i64 kind) := HG1.out.cell 0
  have d0 : w1.cell? ⟨w.heap.size + 1, 0, none⟩ = some (.int .i64 kind) := HH1.out.cell 0
  have c1 : w1.cell? ⟨w.heap.size, 1, none⟩ = some (.int .i64 dev) := HG1.out.cell 1
  have d1 : w1.cell? ⟨w.heap.size + 1, 1, none⟩ = some (.int .i64 dev) := HH1.out.cell 1
  have c2 : w1.cell? ⟨w.heap.size, 2, none⟩ = some (.int .i64 round) := HG1.out.cell 2
  have d2 : w1.cell? ⟨w.heap.size + 1, 2, none⟩ = some (.int .i64 round) := HH1.out.cell 2
  have c3 : w1.cell? ⟨w.heap.size, 3, none⟩ = some (.int .i64 version) := HG1.out.cell 3
  have d3 : w1.cell? ⟨w.heap.size + 1, 3, none⟩ = some (.int .i64 version) := HH1.out.cell 3
  have c4 : w1.cell? ⟨w.heap.size, 4, none⟩ = some (.int .i64 budget) := HG1.out.cell 4
  have d4 : w1.cell? ⟨w.heap.size + 1, 4, none⟩ = some (.int .i64 budget) := HH1.out.cell 4
  have c5 : w1.cell? ⟨w.heap.size, 5, none⟩ = some (.slice wA wn wc) := HG1.out.cell 5
  have d5 : w1.cell? ⟨w.heap.size + 1, 5, none⟩ = some (.slice wA' wn' wc') := HH1.out.cell 5
  have c6 : w1.cell? ⟨w.heap.size, 6, none⟩ = some (.int .i64 cut) := HG1.out.cell 6
  have d6 : w1.cell? ⟨w.heap.size + 1, 6, none⟩ = some (.int .i64 cut) := HH1.out.cell 6
  have c7 : w1.cell? ⟨w.heap.size, 7, none⟩ = some (.slice hA hn hc) := HG1.out.cell 7
  have d7 : w1.cell? ⟨w.heap.size + 1, 7, none⟩ = some (.slice hA' hn' hc') := HH1.out.cell 7
  have c8 : w1.cell? ⟨w.heap.size, 8, none⟩ = some (.int .i64 fr) := HG1.out.cell 8
  have d8 : w1.cell? ⟨w.heap.size + 1, 8, none⟩ = some (.int .i64 fr) := HH1.out.cell 8
  have c9 : w1.cell? ⟨w.heap.size, 9, none⟩ = some (.int .i64 tO) := HG1.out.cell 9
  have d9 : w1.cell? ⟨w.heap.size + 1, 9, none⟩ = some (.int .i64 tO) := HH1.out.cell 9
  have c10 : w1.cell? ⟨w.heap.size, 10, none⟩ = some (.slice kA kn kc) := HG1.out.cell 10
  have d10 : w1.cell? ⟨w.heap.size + 1, 10, none⟩ = some (.slice kA' kn' kc') := HH1.out.cell 10
  have c11 : w1.cell? ⟨w.heap.size, 11, none⟩ = some (.int .i64 dec) := HG1.out.cell 11
  have d11 : w1.cell? ⟨w.heap.size + 1, 11, none⟩ = some (.int .i64 dec) := HH1.out.cell 11
  have c12 : w1.cell? ⟨w.heap.size, 12, none⟩ = some (.int .i64 part) := HG1.out.cell 12
  have d12 : w1.cell? ⟨w.heap.size + 1, 12, none⟩ = some (.int .i64 part) := HH1.out.cell 12
  have c13 : w1.cell? ⟨w.heap.size, 13, none⟩ = some (.int .i64 parts) := HG1.out.cell 13
  have d13 : w1.cell? ⟨w.heap.size + 1, 13, none⟩ = some (.int .i64 parts) := HH1.out.cell 13
  have c14 : w1.cell? ⟨w.heap.size, 14, none⟩ = some (.slice eA en ec) := HG1.out.cell 14
  have d14 : w1.cell? ⟨w.heap.size + 1, 14, none⟩ = some (.slice eA' en' ec') := HH1.out.cell 14
  have c15 : w1.cell? ⟨w.heap.size, 15, none⟩ = some (.int .i64 sdev) := HG1.out.cell 15
  have d15 : w1.cell? ⟨w.heap.size + 1, 15, none⟩ = some (.int .i64 sdev) := HH1.out.cell 15
  have c16 : w1.cell? ⟨w.heap.size, 16, none⟩ = some (.int .i64 sseq) := HG1.out.cell 16
  have d16 : w1.cell? ⟨w.heap.size + 1, 16, none⟩ = some (.int .i64 sseq) := HH1.out.cell 16
  have c17 : w1.cell? ⟨w.heap.size, 17, none⟩ = some (.int .i64 sproc) := HG1.out.cell 17
  have d17 : w1.cell? ⟨w.heap.size + 1, 17, none⟩ = some (.int .i64 sproc) := HH1.out.cell 17
  have c18 : w1.cell? ⟨w.heap.size, 18, none⟩ = some (.slice saA san sac) := HG1.out.cell 18
  have d18 : w1.cell? ⟨w.heap.size + 1, 18, none⟩ = some (.slice saA' san' sac') := HH1.out.cell 18
  have c19 : w1.cell? ⟨w.heap.size, 19, none⟩ = some (.bool srec) := HG1.out.cell 19
  have d19 : w1.cell? ⟨w.heap.size + 1, 19, none⟩ = some (.bool srec) := HH1.out.cell 19
  have c20 : w1.cell? ⟨w.heap.size, 20, none⟩ = some (.slice srA srn src) := HG1.out.cell 20
  have d20 : w1.cell? ⟨w.heap.size + 1, 20, none⟩ = some (.slice srA' srn' src') := HH1.out.cell 20
  have c21 : w1.cell? ⟨w.heap.size, 21, none⟩ = some (.int .i64 vdev) := HG1.out.cell 21
  have d21 : w1.cell? ⟨w.heap.size + 1, 21, none⟩ = some (.int .i64 vdev) := HH1.out.cell 21
  have c22 : w1.cell? ⟨w.heap.size, 22, none⟩ = some (.int .i64 vseq) := HG1.out.cell 22
  have d22 : w1.cell? ⟨w.heap.size + 1, 22, none⟩ = some (.int .i64 vseq) := HH1.out.cell 22
  have c23 : w1.cell? ⟨w.heap.size, 23, none⟩ = some (.int .i64 vproc) := HG1.out.cell 23
  have d23 : w1.cell? ⟨w.heap.size + 1, 23, none⟩ = some (.int .i64 vproc) := HH1.out.cell 23
  have c24 : w1.cell? ⟨w.heap.size, 24, none⟩ = some (.slice vaA van vac) := HG1.out.cell 24
  have d24 : w1.cell? ⟨w.heap.size + 1, 24, none⟩ = some (.slice vaA' van' vac') := HH1.out.cell 24
  have c25 : w1.cell? ⟨w.heap.size, 25, none⟩ = some (.int .i64 vst) := HG1.out.cell 25
  have d25 : w1.cell? ⟨w.heap.size + 1, 25, none⟩ = some (.int .i64 vst) := HH1.out.cell 25
  have c26 : w1.cell? ⟨w.heap.size, 26, none⟩ = some (.int .i64 vcm) := HG1.out.cell 26
  have d26 : w1.cell? ⟨w.heap.size + 1, 26, none⟩ = some (.int .i64 vcm) := HH1.out.cell 26
  have c27 : w1.cell? ⟨w.heap.size, 27, none⟩ = some (.int .i64 vrs) := HG1.out.cell 27
  have d27 : w1.cell? ⟨w.heap.size + 1, 27, none⟩ = some (.int .i64 vrs) := HH1.out.cell 27
  have c28 : w1.cell? ⟨w.heap.size, 28, none⟩ = some (.int .i64 vcd) := HG1.out.cell 28
  have d28 : w1.cell? ⟨w.heap.size + 1, 28, none⟩ = some (.int .i64 vcd) := HH1.out.cell 28
  have c29 : w1.cell? ⟨w.heap.size, 29, none⟩ = some (.int .i64 vtb) := HG1.out.cell 29
  have d29 : w1.cell? ⟨w.heap.size + 1, 29, none⟩ = some (.int .i64 vtb) := HH1.out.cell 29
  have c30 : w1.cell? ⟨w.heap.size, 30, none⟩ = some (.slice vkA vkn vkc) := HG1.out.cell 30
  have d30 : w1.cell? ⟨w.heap.size + 1, 30, none⟩ = some (.slice vkA' vkn' vkc') := HH1.out.cell 30
  go_wp2_with fail
  refine (H2.out _ HK1.out).mono ?_
  rintro e w2 ⟨rfl, hk2⟩
  have HK2 := Lib.hid (HK1.out.then0 hk2)
  have HG2 := Lib.hid (HG1.out.kept hk2 (fun h => h))
  have HH2 := Lib.hid (HH1.out.kept hk2 (fun h => h))
  clear hk2 HK1 HG1 HH1
  clear c0 d0 c1 d1 c2 d2 c3 d3 c4 d4 c5 d5 c6 d6 c7 d7 c8 d8 c9 d9 c10 d10 c11 d11 c12 d12 c13 d13 c14 d14 c15 d15 c16 d16 c17 d17 c18 d18 c19 d19 c20 d20 c21 d21 c22 d22 c23 d23 c24 d24 c25 d25 c26 d26 c27 d27 c28 d28 c29 d29 c30 d30
  have c0 : w2.cell? ⟨w.heap.size, 0, none⟩ = some (.int .i64 kind) := HG2.out.cell 0
  have d0 : w2.cell? ⟨w.heap.size + 1, 0, none⟩ = some (.int .i64 kind) := HH2.out.cell 0
  have c1 : w2.cell? ⟨w.heap.size, 1, none⟩ = some (.int .i64 dev) := HG2.out.cell 1
  have d1 : w2.cell? ⟨w.heap.size + 1, 1, none⟩ = some (.int .i64 dev) := HH2.out.cell 1
  have c2 : w2.cell? ⟨w.heap.size, 2, none⟩ = some (.int .i64 round) := HG2.out.cell 2
  have d2 : w2.cell? ⟨w.heap.size + 1, 2, none⟩ = some (.int .i64 round) := HH2.out.cell 2
  have c3 : w2.cell? ⟨w.heap.size, 3, none⟩ = some (.int .i64 version) := HG2.out.cell 3
  have d3 : w2.cell? ⟨w.heap.size + 1, 3, none⟩ = some (.int .i64 version) := HH2.out.cell 3
  have c4 : w2.cell? ⟨w.heap.size, 4, none⟩ = some (.int .i64 budget) := HG2.out.cell 4
  have d4 : w2.cell? ⟨w.heap.size + 1, 4, none⟩ = some (.int .i64 budget) := HH2.out.cell 4
  have c5 : w2.cell? ⟨w.heap.size, 5, none⟩ = some (.slice wA wn wc) := HG2.out.cell 5
  have d5 : w2.cell? ⟨w.heap.size + 1, 5, none⟩ = some (.slice wA' wn' wc') := HH2.out.cell 5
  have c6 : w2.cell? ⟨w.heap.size, 6, none⟩ = some (.int .i64 cut) := HG2.out.cell 6
  have d6 : w2.cell? ⟨w.heap.size + 1, 6, none⟩ = some (.int .i64 cut) := HH2.out.cell 6
  have c7 : w2.cell? ⟨w.heap.size, 7, none⟩ = some (.slice hA hn hc) := HG2.out.cell 7
  have d7 : w2.cell? ⟨w.heap.size + 1, 7, none⟩ = some (.slice hA' hn' hc') := HH2.out.cell 7
  have c8 : w2.cell? ⟨w.heap.size, 8, none⟩ = some (.int .i64 fr) := HG2.out.cell 8
  have d8 : w2.cell? ⟨w.heap.size + 1, 8, none⟩ = some (.int .i64 fr) := HH2.out.cell 8
  have c9 : w2.cell? ⟨w.heap.size, 9, none⟩ = some (.int .i64 tO) := HG2.out.cell 9
  have d9 : w2.cell? ⟨w.heap.size + 1, 9, none⟩ = some (.int .i64 tO) := HH2.out.cell 9
  have c10 : w2.cell? ⟨w.heap.size, 10, none⟩ = some (.slice kA kn kc) := HG2.out.cell 10
  have d10 : w2.cell? ⟨w.heap.size + 1, 10, none⟩ = some (.slice kA' kn' kc') := HH2.out.cell 10
  have c11 : w2.cell? ⟨w.heap.size, 11, none⟩ = some (.int .i64 dec) := HG2.out.cell 11
  have d11 : w2.cell? ⟨w.heap.size + 1, 11, none⟩ = some (.int .i64 dec) := HH2.out.cell 11
  have c12 : w2.cell? ⟨w.heap.size, 12, none⟩ = some (.int .i64 part) := HG2.out.cell 12
  have d12 : w2.cell? ⟨w.heap.size + 1, 12, none⟩ = some (.int .i64 part) := HH2.out.cell 12
  have c13 : w2.cell? ⟨w.heap.size, 13, none⟩ = some (.int .i64 parts) := HG2.out.cell 13
  have d13 : w2.cell? ⟨w.heap.size + 1, 13, none⟩ = some (.int .i64 parts) := HH2.out.cell 13
  have c14 : w2.cell? ⟨w.heap.size, 14, none⟩ = some (.slice eA en ec) := HG2.out.cell 14
  have d14 : w2.cell? ⟨w.heap.size + 1, 14, none⟩ = some (.slice eA' en' ec') := HH2.out.cell 14
  have c15 : w2.cell? ⟨w.heap.size, 15, none⟩ = some (.int .i64 sdev) := HG2.out.cell 15
  have d15 : w2.cell? ⟨w.heap.size + 1, 15, none⟩ = some (.int .i64 sdev) := HH2.out.cell 15
  have c16 : w2.cell? ⟨w.heap.size, 16, none⟩ = some (.int .i64 sseq) := HG2.out.cell 16
  have d16 : w2.cell? ⟨w.heap.size + 1, 16, none⟩ = some (.int .i64 sseq) := HH2.out.cell 16
  have c17 : w2.cell? ⟨w.heap.size, 17, none⟩ = some (.int .i64 sproc) := HG2.out.cell 17
  have d17 : w2.cell? ⟨w.heap.size + 1, 17, none⟩ = some (.int .i64 sproc) := HH2.out.cell 17
  have c18 : w2.cell? ⟨w.heap.size, 18, none⟩ = some (.slice saA san sac) := HG2.out.cell 18
  have d18 : w2.cell? ⟨w.heap.size + 1, 18, none⟩ = some (.slice saA' san' sac') := HH2.out.cell 18
  have c19 : w2.cell? ⟨w.heap.size, 19, none⟩ = some (.bool srec) := HG2.out.cell 19
  have d19 : w2.cell? ⟨w.heap.size + 1, 19, none⟩ = some (.bool srec) := HH2.out.cell 19
  have c20 : w2.cell? ⟨w.heap.size, 20, none⟩ = some (.slice srA srn src) := HG2.out.cell 20
  have d20 : w2.cell? ⟨w.heap.size + 1, 20, none⟩ = some (.slice srA' srn' src') := HH2.out.cell 20
  have c21 : w2.cell? ⟨w.heap.size, 21, none⟩ = some (.int .i64 vdev) := HG2.out.cell 21
  have d21 : w2.cell? ⟨w.heap.size + 1, 21, none⟩ = some (.int .i64 vdev) := HH2.out.cell 21
  have c22 : w2.cell? ⟨w.heap.size, 22, none⟩ = some (.int .i64 vseq) := HG2.out.cell 22
  have d22 : w2.cell? ⟨w.heap.size + 1, 22, none⟩ = some (.int .i64 vseq) := HH2.out.cell 22
  have c23 : w2.cell? ⟨w.heap.size, 23, none⟩ = some (.int .i64 vproc) := HG2.out.cell 23
  have d23 : w2.cell? ⟨w.heap.size + 1, 23, none⟩ = some (.int .i64 vproc) := HH2.out.cell 23
  have c24 : w2.cell? ⟨w.heap.size, 24, none⟩ = some (.slice vaA van vac) := HG2.out.cell 24
  have d24 : w2.cell? ⟨w.heap.size + 1, 24, none⟩ = some (.slice vaA' van' vac') := HH2.out.cell 24
  have c25 : w2.cell? ⟨w.heap.size, 25, none⟩ = some (.int .i64 vst) := HG2.out.cell 25
  have d25 : w2.cell? ⟨w.heap.size + 1, 25, none⟩ = some (.int .i64 vst) := HH2.out.cell 25
  have c26 : w2.cell? ⟨w.heap.size, 26, none⟩ = some (.int .i64 vcm) := HG2.out.cell 26
  have d26 : w2.cell? ⟨w.heap.size + 1, 26, none⟩ = some (.int .i64 vcm) := HH2.out.cell 26
  have c27 : w2.cell? ⟨w.heap.size, 27, none⟩ = some (.int .i64 vrs) := HG2.out.cell 27
  have d27 : w2.cell? ⟨w.heap.size + 1, 27, none⟩ = some (.int .i64 vrs) := HH2.out.cell 27
  have c28 : w2.cell? ⟨w.heap.size, 28, none⟩ = some (.int .i64 vcd) := HG2.out.cell 28
  have d28 : w2.cell? ⟨w.heap.size + 1, 28, none⟩ = some (.int .i64 vcd) := HH2.out.cell 28
  have c29 : w2.cell? ⟨w.heap.size, 29, none⟩ = some (.int .i64 vtb) := HG2.out.cell 29
  have d29 : w2.cell? ⟨w.heap.size + 1, 29, none⟩ = some (.int .i64 vtb) := HH2.out.cell 29
  have c30 : w2.cell? ⟨w.heap.size, 30, none⟩ = some (.slice vkA vkn vkc) := HG2.out.cell 30
  have d30 : w2.cell? ⟨w.heap.size + 1, 30, none⟩ = some (.slice vkA' vkn' vkc') := HH2.out.cell 30
  go_wp2_with fail
  refine (H3.out _ HK2.out).mono ?_
  rintro e w3 ⟨rfl, hk3⟩
  have HK3 := Lib.hid (HK2.out.then0 hk3)
  have HG3 := Lib.hid (HG2.out.kept hk3 (fun h => h))
  have HH3 := Lib.hid (HH2.out.kept hk3 (fun h => h))
  clear hk3 HK2 HG2 HH2
  clear c0 d0 c1 d1 c2 d2 c3 d3 c4 d4 c5 d5 c6 d6 c7 d7 c8 d8 c9 d9 c10 d10 c11 d11 c12 d12 c13 d13 c14 d14 c15 d15 c16 d16 c17 d17 c18 d18 c19 d19 c20 d20 c21 d21 c22 d22 c23 d23 c24 d24 c25 d25 c26 d26 c27 d27 c28 d28 c29 d29 c30 d30
  have c0 : w3.cell? ⟨w.heap.size, 0, none⟩ = some (.int .i64 kind) := HG3.out.cell 0
  have d0 : w3.cell? ⟨w.heap.size + 1, 0, none⟩ = some (.int .i64 kind) := HH3.out.cell 0
  have c1 : w3.cell? ⟨w.heap.size, 1, none⟩ = some (.int .i64 dev) := HG3.out.cell 1
  have d1 : w3.cell? ⟨w.heap.size + 1, 1, none⟩ = some (.int .i64 dev) := HH3.out.cell 1
  have c2 : w3.cell? ⟨w.heap.size, 2, none⟩ = some (.int .i64 round) := HG3.out.cell 2
  have d2 : w3.cell? ⟨w.heap.size + 1, 2, none⟩ = some (.int .i64 round) := HH3.out.cell 2
  have c3 : w3.cell? ⟨w.heap.size, 3, none⟩ = some (.int .i64 version) := HG3.out.cell 3
  have d3 : w3.cell? ⟨w.heap.size + 1, 3, none⟩ = some (.int .i64 version) := HH3.out.cell 3
  have c4 : w3.cell? ⟨w.heap.size, 4, none⟩ = some (.int .i64 budget) := HG3.out.cell 4
  have d4 : w3.cell? ⟨w.heap.size + 1, 4, none⟩ = some (.int .i64 budget) := HH3.out.cell 4
  have c5 : w3.cell? ⟨w.heap.size, 5, none⟩ = some (.slice wA wn wc) := HG3.out.cell 5
  have d5 : w3.cell? ⟨w.heap.size + 1, 5, none⟩ = some (.slice wA' wn' wc') := HH3.out.cell 5
  have c6 : w3.cell? ⟨w.heap.size, 6, none⟩ = some (.int .i64 cut) := HG3.out.cell 6
  have d6 : w3.cell? ⟨w.heap.size + 1, 6, none⟩ = some (.int .i64 cut) := HH3.out.cell 6
  have c7 : w3.cell? ⟨w.heap.size, 7, none⟩ = some (.slice hA hn hc) := HG3.out.cell 7
  have d7 : w3.cell? ⟨w.heap.size + 1, 7, none⟩ = some (.slice hA' hn' hc') := HH3.out.cell 7
  have c8 : w3.cell? ⟨w.heap.size, 8, none⟩ = some (.int .i64 fr) := HG3.out.cell 8
  have d8 : w3.cell? ⟨w.heap.size + 1, 8, none⟩ = some (.int .i64 fr) := HH3.out.cell 8
  have c9 : w3.cell? ⟨w.heap.size, 9, none⟩ = some (.int .i64 tO) := HG3.out.cell 9
  have d9 : w3.cell? ⟨w.heap.size + 1, 9, none⟩ = some (.int .i64 tO) := HH3.out.cell 9
  have c10 : w3.cell? ⟨w.heap.size, 10, none⟩ = some (.slice kA kn kc) := HG3.out.cell 10
  have d10 : w3.cell? ⟨w.heap.size + 1, 10, none⟩ = some (.slice kA' kn' kc') := HH3.out.cell 10
  have c11 : w3.cell? ⟨w.heap.size, 11, none⟩ = some (.int .i64 dec) := HG3.out.cell 11
  have d11 : w3.cell? ⟨w.heap.size + 1, 11, none⟩ = some (.int .i64 dec) := HH3.out.cell 11
  have c12 : w3.cell? ⟨w.heap.size, 12, none⟩ = some (.int .i64 part) := HG3.out.cell 12
  have d12 : w3.cell? ⟨w.heap.size + 1, 12, none⟩ = some (.int .i64 part) := HH3.out.cell 12
  have c13 : w3.cell? ⟨w.heap.size, 13, none⟩ = some (.int .i64 parts) := HG3.out.cell 13
  have d13 : w3.cell? ⟨w.heap.size + 1, 13, none⟩ = some (.int .i64 parts) := HH3.out.cell 13
  have c14 : w3.cell? ⟨w.heap.size, 14, none⟩ = some (.slice eA en ec) := HG3.out.cell 14
  have d14 : w3.cell? ⟨w.heap.size + 1, 14, none⟩ = some (.slice eA' en' ec') := HH3.out.cell 14
  have c15 : w3.cell? ⟨w.heap.size, 15, none⟩ = some (.int .i64 sdev) := HG3.out.cell 15
  have d15 : w3.cell? ⟨w.heap.size + 1, 15, none⟩ = some (.int .i64 sdev) := HH3.out.cell 15
  have c16 : w3.cell? ⟨w.heap.size, 16, none⟩ = some (.int .i64 sseq) := HG3.out.cell 16
  have d16 : w3.cell? ⟨w.heap.size + 1, 16, none⟩ = some (.int .i64 sseq) := HH3.out.cell 16
  have c17 : w3.cell? ⟨w.heap.size, 17, none⟩ = some (.int .i64 sproc) := HG3.out.cell 17
  have d17 : w3.cell? ⟨w.heap.size + 1, 17, none⟩ = some (.int .i64 sproc) := HH3.out.cell 17
  have c18 : w3.cell? ⟨w.heap.size, 18, none⟩ = some (.slice saA san sac) := HG3.out.cell 18
  have d18 : w3.cell? ⟨w.heap.size + 1, 18, none⟩ = some (.slice saA' san' sac') := HH3.out.cell 18
  have c19 : w3.cell? ⟨w.heap.size, 19, none⟩ = some (.bool srec) := HG3.out.cell 19
  have d19 : w3.cell? ⟨w.heap.size + 1, 19, none⟩ = some (.bool srec) := HH3.out.cell 19
  have c20 : w3.cell? ⟨w.heap.size, 20, none⟩ = some (.slice srA srn src) := HG3.out.cell 20
  have d20 : w3.cell? ⟨w.heap.size + 1, 20, none⟩ = some (.slice srA' srn' src') := HH3.out.cell 20
  have c21 : w3.cell? ⟨w.heap.size, 21, none⟩ = some (.int .i64 vdev) := HG3.out.cell 21
  have d21 : w3.cell? ⟨w.heap.size + 1, 21, none⟩ = some (.int .i64 vdev) := HH3.out.cell 21
  have c22 : w3.cell? ⟨w.heap.size, 22, none⟩ = some (.int .i64 vseq) := HG3.out.cell 22
  have d22 : w3.cell? ⟨w.heap.size + 1, 22, none⟩ = some (.int .i64 vseq) := HH3.out.cell 22
  have c23 : w3.cell? ⟨w.heap.size, 23, none⟩ = some (.int .i64 vproc) := HG3.out.cell 23
  have d23 : w3.cell? ⟨w.heap.size + 1, 23, none⟩ = some (.int .i64 vproc) := HH3.out.cell 23
  have c24 : w3.cell? ⟨w.heap.size, 24, none⟩ = some (.slice vaA van vac) := HG3.out.cell 24
  have d24 : w3.cell? ⟨w.heap.size + 1, 24, none⟩ = some (.slice vaA' van' vac') := HH3.out.cell 24
  have c25 : w3.cell? ⟨w.heap.size, 25, none⟩ = some (.int .i64 vst) := HG3.out.cell 25
  have d25 : w3.cell? ⟨w.heap.size + 1, 25, none⟩ = some (.int .i64 vst) := HH3.out.cell 25
  have c26 : w3.cell? ⟨w.heap.size, 26, none⟩ = some (.int .i64 vcm) := HG3.out.cell 26
  have d26 : w3.cell? ⟨w.heap.size + 1, 26, none⟩ = some (.int .i64 vcm) := HH3.out.cell 26
  have c27 : w3.cell? ⟨w.heap.size, 27, none⟩ = some (.int .i64 vrs) := HG3.out.cell 27
  have d27 : w3.cell? ⟨w.heap.size + 1, 27, none⟩ = some (.int .i64 vrs) := HH3.out.cell 27
  have c28 : w3.cell? ⟨w.heap.size, 28, none⟩ = some (.int .i64 vcd) := HG3.out.cell 28
  have d28 : w3.cell? ⟨w.heap.size + 1, 28, none⟩ = some (.int .i64 vcd) := HH3.out.cell 28
  have c29 : w3.cell? ⟨w.heap.size, 29, none⟩ = some (.int .i64 vtb) := HG3.out.cell 29
  have d29 : w3.cell? ⟨w.heap.size + 1, 29, none⟩ = some (.int .i64 vtb) := HH3.out.cell 29
  have c30 : w3.cell? ⟨w.heap.size, 30, none⟩ = some (.slice vkA vkn vkc) := HG3.out.cell 30
  have d30 : w3.cell? ⟨w.heap.size + 1, 30, none⟩ = some (.slice vkA' vkn' vkc') := HH3.out.cell 30
  go_wp2_with fail
  refine (H4.out _ HK3.out).mono ?_
  rintro e w4 ⟨rfl, hk4⟩
  have HK4 := Lib.hid (HK3.out.then0 hk4)
  have HG4 := Lib.hid (HG3.out.kept hk4 (fun h => h))
  have HH4 := Lib.hid (HH3.out.kept hk4 (fun h => h))
  clear hk4 HK3 HG3 HH3
  clear c0 d0 c1 d1 c2 d2 c3 d3 c4 d4 c5 d5 c6 d6 c7 d7 c8 d8 c9 d9 c10 d10 c11 d11 c12 d12 c13 d13 c14 d14 c15 d15 c16 d16 c17 d17 c18 d18 c19 d19 c20 d20 c21 d21 c22 d22 c23 d23 c24 d24 c25 d25 c26 d26 c27 d27 c28 d28 c29 d29 c30 d30
  have c0 : w4.cell? ⟨w.heap.size, 0, none⟩ = some (.int .i64 kind) := HG4.out.cell 0
  have d0 : w4.cell? ⟨w.heap.size + 1, 0, none⟩ = some (.int .i64 kind) := HH4.out.cell 0
  have c1 : w4.cell? ⟨w.heap.size, 1, none⟩ = some (.int .i64 dev) := HG4.out.cell 1
  have d1 : w4.cell? ⟨w.heap.size + 1, 1, none⟩ = some (.int .i64 dev) := HH4.out.cell 1
  have c2 : w4.cell? ⟨w.heap.size, 2, none⟩ = some (.int .i64 round) := HG4.out.cell 2
  have d2 : w4.cell? ⟨w.heap.size + 1, 2, none⟩ = some (.int .i64 round) := HH4.out.cell 2
  have c3 : w4.cell? ⟨w.heap.size, 3, none⟩ = some (.int .i64 version) := HG4.out.cell 3
  have d3 : w4.cell? ⟨w.heap.size + 1, 3, none⟩ = some (.int .i64 version) := HH4.out.cell 3
  have c4 : w4.cell? ⟨w.heap.size, 4, none⟩ = some (.int .i64 budget) := HG4.out.cell 4
  have d4 : w4.cell? ⟨w.heap.size + 1, 4, none⟩ = some (.int .i64 budget) := HH4.out.cell 4
  have c5 : w4.cell? ⟨w.heap.size, 5, none⟩ = some (.slice wA wn wc) := HG4.out.cell 5
  have d5 : w4.cell? ⟨w.heap.size + 1, 5, none⟩ = some (.slice wA' wn' wc') := HH4.out.cell 5
  have c6 : w4.cell? ⟨w.heap.size, 6, none⟩ = some (.int .i64 cut) := HG4.out.cell 6
  have d6 : w4.cell? ⟨w.heap.size + 1, 6, none⟩ = some (.int .i64 cut) := HH4.out.cell 6
  have c7 : w4.cell? ⟨w.heap.size, 7, none⟩ = some (.slice hA hn hc) := HG4.out.cell 7
  have d7 : w4.cell? ⟨w.heap.size + 1, 7, none⟩ = some (.slice hA' hn' hc') := HH4.out.cell 7
  have c8 : w4.cell? ⟨w.heap.size, 8, none⟩ = some (.int .i64 fr) := HG4.out.cell 8
  have d8 : w4.cell? ⟨w.heap.size + 1, 8, none⟩ = some (.int .i64 fr) := HH4.out.cell 8
  have c9 : w4.cell? ⟨w.heap.size, 9, none⟩ = some (.int .i64 tO) := HG4.out.cell 9
  have d9 : w4.cell? ⟨w.heap.size + 1, 9, none⟩ = some (.int .i64 tO) := HH4.out.cell 9
  have c10 : w4.cell? ⟨w.heap.size, 10, none⟩ = some (.slice kA kn kc) := HG4.out.cell 10
  have d10 : w4.cell? ⟨w.heap.size + 1, 10, none⟩ = some (.slice kA' kn' kc') := HH4.out.cell 10
  have c11 : w4.cell? ⟨w.heap.size, 11, none⟩ = some (.int .i64 dec) := HG4.out.cell 11
  have d11 : w4.cell? ⟨w.heap.size + 1, 11, none⟩ = some (.int .i64 dec) := HH4.out.cell 11
  have c12 : w4.cell? ⟨w.heap.size, 12, none⟩ = some (.int .i64 part) := HG4.out.cell 12
  have d12 : w4.cell? ⟨w.heap.size + 1, 12, none⟩ = some (.int .i64 part) := HH4.out.cell 12
  have c13 : w4.cell? ⟨w.heap.size, 13, none⟩ = some (.int .i64 parts) := HG4.out.cell 13
  have d13 : w4.cell? ⟨w.heap.size + 1, 13, none⟩ = some (.int .i64 parts) := HH4.out.cell 13
  have c14 : w4.cell? ⟨w.heap.size, 14, none⟩ = some (.slice eA en ec) := HG4.out.cell 14
  have d14 : w4.cell? ⟨w.heap.size + 1, 14, none⟩ = some (.slice eA' en' ec') := HH4.out.cell 14
  have c15 : w4.cell? ⟨w.heap.size, 15, none⟩ = some (.int .i64 sdev) := HG4.out.cell 15
  have d15 : w4.cell? ⟨w.heap.size + 1, 15, none⟩ = some (.int .i64 sdev) := HH4.out.cell 15
  have c16 : w4.cell? ⟨w.heap.size, 16, none⟩ = some (.int .i64 sseq) := HG4.out.cell 16
  have d16 : w4.cell? ⟨w.heap.size + 1, 16, none⟩ = some (.int .i64 sseq) := HH4.out.cell 16
  have c17 : w4.cell? ⟨w.heap.size, 17, none⟩ = some (.int .i64 sproc) := HG4.out.cell 17
  have d17 : w4.cell? ⟨w.heap.size + 1, 17, none⟩ = some (.int .i64 sproc) := HH4.out.cell 17
  have c18 : w4.cell? ⟨w.heap.size, 18, none⟩ = some (.slice saA san sac) := HG4.out.cell 18
  have d18 : w4.cell? ⟨w.heap.size + 1, 18, none⟩ = some (.slice saA' san' sac') := HH4.out.cell 18
  have c19 : w4.cell? ⟨w.heap.size, 19, none⟩ = some (.bool srec) := HG4.out.cell 19
  have d19 : w4.cell? ⟨w.heap.size + 1, 19, none⟩ = some (.bool srec) := HH4.out.cell 19
  have c20 : w4.cell? ⟨w.heap.size, 20, none⟩ = some (.slice srA srn src) := HG4.out.cell 20
  have d20 : w4.cell? ⟨w.heap.size + 1, 20, none⟩ = some (.slice srA' srn' src') := HH4.out.cell 20
  have c21 : w4.cell? ⟨w.heap.size, 21, none⟩ = some (.int .i64 vdev) := HG4.out.cell 21
  have d21 : w4.cell? ⟨w.heap.size + 1, 21, none⟩ = some (.int .i64 vdev) := HH4.out.cell 21
  have c22 : w4.cell? ⟨w.heap.size, 22, none⟩ = some (.int .i64 vseq) := HG4.out.cell 22
  have d22 : w4.cell? ⟨w.heap.size + 1, 22, none⟩ = some (.int .i64 vseq) := HH4.out.cell 22
  have c23 : w4.cell? ⟨w.heap.size, 23, none⟩ = some (.int .i64 vproc) := HG4.out.cell 23
  have d23 : w4.cell? ⟨w.heap.size + 1, 23, none⟩ = some (.int .i64 vproc) := HH4.out.cell 23
  have c24 : w4.cell? ⟨w.heap.size, 24, none⟩ = some (.slice vaA van vac) := HG4.out.cell 24
  have d24 : w4.cell? ⟨w.heap.size + 1, 24, none⟩ = some (.slice vaA' van' vac') := HH4.out.cell 24
  have c25 : w4.cell? ⟨w.heap.size, 25, none⟩ = some (.int .i64 vst) := HG4.out.cell 25
  have d25 : w4.cell? ⟨w.heap.size + 1, 25, none⟩ = some (.int .i64 vst) := HH4.out.cell 25
  have c26 : w4.cell? ⟨w.heap.size, 26, none⟩ = some (.int .i64 vcm) := HG4.out.cell 26
  have d26 : w4.cell? ⟨w.heap.size + 1, 26, none⟩ = some (.int .i64 vcm) := HH4.out.cell 26
  have c27 : w4.cell? ⟨w.heap.size, 27, none⟩ = some (.int .i64 vrs) := HG4.out.cell 27
  have d27 : w4.cell? ⟨w.heap.size + 1, 27, none⟩ = some (.int .i64 vrs) := HH4.out.cell 27
  have c28 : w4.cell? ⟨w.heap.size, 28, none⟩ = some (.int .i64 vcd) := HG4.out.cell 28
  have d28 : w4.cell? ⟨w.heap.size + 1, 28, none⟩ = some (.int .i64 vcd) := HH4.out.cell 28
  have c29 : w4.cell? ⟨w.heap.size, 29, none⟩ = some (.int .i64 vtb) := HG4.out.cell 29
  have d29 : w4.cell? ⟨w.heap.size + 1, 29, none⟩ = some (.int .i64 vtb) := HH4.out.cell 29
  have c30 : w4.cell? ⟨w.heap.size, 30, none⟩ = some (.slice vkA vkn vkc) := HG4.out.cell 30
  have d30 : w4.cell? ⟨w.heap.size + 1, 30, none⟩ = some (.slice vkA' vkn' vkc') := HH4.out.cell 30
  go_wp2_with fail
  refine (H5.out _ HK4.out).mono ?_
  rintro e w5 ⟨rfl, hk5⟩
  have HK5 := Lib.hid (HK4.out.then0 hk5)
  have HG5 := Lib.hid (HG4.out.kept hk5 (fun h => h))
  have HH5 := Lib.hid (HH4.out.kept hk5 (fun h => h))
  clear hk5 HK4 HG4 HH4
  clear c0 d0 c1 d1 c2 d2 c3 d3 c4 d4 c5 d5 c6 d6 c7 d7 c8 d8 c9 d9 c10 d10 c11 d11 c12 d12 c13 d13 c14 d14 c15 d15 c16 d16 c17 d17 c18 d18 c19 d19 c20 d20 c21 d21 c22 d22 c23 d23 c24 d24 c25 d25 c26 d26 c27 d27 c28 d28 c29 d29 c30 d30
  have c0 : w5.cell? ⟨w.heap.size, 0, none⟩ = some (.int .i64 kind) := HG5.out.cell 0
  have d0 : w5.cell? ⟨w.heap.size + 1, 0, none⟩ = some (.int .i64 kind) := HH5.out.cell 0
  have c1 : w5.cell? ⟨w.heap.size, 1, none⟩ = some (.int .i64 dev) := HG5.out.cell 1
  have d1 : w5.cell? ⟨w.heap.size + 1, 1, none⟩ = some (.int .i64 dev) := HH5.out.cell 1
  have c2 : w5.cell? ⟨w.heap.size, 2, none⟩ = some (.int .i64 round) := HG5.out.cell 2
  have d2 : w5.cell? ⟨w.heap.size + 1, 2, none⟩ = some (.int .i64 round) := HH5.out.cell 2
  have c3 : w5.cell? ⟨w.heap.size, 3, none⟩ = some (.int .i64 version) := HG5.out.cell 3
  have d3 : w5.cell? ⟨w.heap.size + 1, 3, none⟩ = some (.int .i64 version) := HH5.out.cell 3
  have c4 : w5.cell? ⟨w.heap.size, 4, none⟩ = some (.int .i64 budget) := HG5.out.cell 4
  have d4 : w5.cell? ⟨w.heap.size + 1, 4, none⟩ = some (.int .i64 budget) := HH5.out.cell 4
  have c5 : w5.cell? ⟨w.heap.size, 5, none⟩ = some (.slice wA wn wc) := HG5.out.cell 5
  have d5 : w5.cell? ⟨w.heap.size + 1, 5, none⟩ = some (.slice wA' wn' wc') := HH5.out.cell 5
  have c6 : w5.cell? ⟨w.heap.size, 6, none⟩ = some (.int .i64 cut) := HG5.out.cell 6
  have d6 : w5.cell? ⟨w.heap.size + 1, 6, none⟩ = some (.int .i64 cut) := HH5.out.cell 6
  have c7 : w5.cell? ⟨w.heap.size, 7, none⟩ = some (.slice hA hn hc) := HG5.out.cell 7
  have d7 : w5.cell? ⟨w.heap.size + 1, 7, none⟩ = some (.slice hA' hn' hc') := HH5.out.cell 7
  have c8 : w5.cell? ⟨w.heap.size, 8, none⟩ = some (.int .i64 fr) := HG5.out.cell 8
  have d8 : w5.cell? ⟨w.heap.size + 1, 8, none⟩ = some (.int .i64 fr) := HH5.out.cell 8
  have c9 : w5.cell? ⟨w.heap.size, 9, none⟩ = some (.int .i64 tO) := HG5.out.cell 9
  have d9 : w5.cell? ⟨w.heap.size + 1, 9, none⟩ = some (.int .i64 tO) := HH5.out.cell 9
  have c10 : w5.cell? ⟨w.heap.size, 10, none⟩ = some (.slice kA kn kc) := HG5.out.cell 10
  have d10 : w5.cell? ⟨w.heap.size + 1, 10, none⟩ = some (.slice kA' kn' kc') := HH5.out.cell 10
  have c11 : w5.cell? ⟨w.heap.size, 11, none⟩ = some (.int .i64 dec) := HG5.out.cell 11
  have d11 : w5.cell? ⟨w.heap.size + 1, 11, none⟩ = some (.int .i64 dec) := HH5.out.cell 11
  have c12 : w5.cell? ⟨w.heap.size, 12, none⟩ = some (.int .i64 part) := HG5.out.cell 12
  have d12 : w5.cell? ⟨w.heap.size + 1, 12, none⟩ = some (.int .i64 part) := HH5.out.cell 12
  have c13 : w5.cell? ⟨w.heap.size, 13, none⟩ = some (.int .i64 parts) := HG5.out.cell 13
  have d13 : w5.cell? ⟨w.heap.size + 1, 13, none⟩ = some (.int .i64 parts) := HH5.out.cell 13
  have c14 : w5.cell? ⟨w.heap.size, 14, none⟩ = some (.slice eA en ec) := HG5.out.cell 14
  have d14 : w5.cell? ⟨w.heap.size + 1, 14, none⟩ = some (.slice eA' en' ec') := HH5.out.cell 14
  have c15 : w5.cell? ⟨w.heap.size, 15, none⟩ = some (.int .i64 sdev) := HG5.out.cell 15
  have d15 : w5.cell? ⟨w.heap.size + 1, 15, none⟩ = some (.int .i64 sdev) := HH5.out.cell 15
  have c16 : w5.cell? ⟨w.heap.size, 16, none⟩ = some (.int .i64 sseq) := HG5.out.cell 16
  have d16 : w5.cell? ⟨w.heap.size + 1, 16, none⟩ = some (.int .i64 sseq) := HH5.out.cell 16
  have c17 : w5.cell? ⟨w.heap.size, 17, none⟩ = some (.int .i64 sproc) := HG5.out.cell 17
  have d17 : w5.cell? ⟨w.heap.size + 1, 17, none⟩ = some (.int .i64 sproc) := HH5.out.cell 17
  have c18 : w5.cell? ⟨w.heap.size, 18, none⟩ = some (.slice saA san sac) := HG5.out.cell 18
  have d18 : w5.cell? ⟨w.heap.size + 1, 18, none⟩ = some (.slice saA' san' sac') := HH5.out.cell 18
  have c19 : w5.cell? ⟨w.heap.size, 19, none⟩ = some (.bool srec) := HG5.out.cell 19
  have d19 : w5.cell? ⟨w.heap.size + 1, 19, none⟩ = some (.bool srec) := HH5.out.cell 19
  have c20 : w5.cell? ⟨w.heap.size, 20, none⟩ = some (.slice srA srn src) := HG5.out.cell 20
  have d20 : w5.cell? ⟨w.heap.size + 1, 20, none⟩ = some (.slice srA' srn' src') := HH5.out.cell 20
  have c21 : w5.cell? ⟨w.heap.size, 21, none⟩ = some (.int .i64 vdev) := HG5.out.cell 21
  have d21 : w5.cell? ⟨w.heap.size + 1, 21, none⟩ = some (.int .i64 vdev) := HH5.out.cell 21
  have c22 : w5.cell? ⟨w.heap.size, 22, none⟩ = some (.int .i64 vseq) := HG5.out.cell 22
  have d22 : w5.cell? ⟨w.heap.size + 1, 22, none⟩ = some (.int .i64 vseq) := HH5.out.cell 22
  have c23 : w5.cell? ⟨w.heap.size, 23, none⟩ = some (.int .i64 vproc) := HG5.out.cell 23
  have d23 : w5.cell? ⟨w.heap.size + 1, 23, none⟩ = some (.int .i64 vproc) := HH5.out.cell 23
  have c24 : w5.cell? ⟨w.heap.size, 24, none⟩ = some (.slice vaA van vac) := HG5.out.cell 24
  have d24 : w5.cell? ⟨w.heap.size + 1, 24, none⟩ = some (.slice vaA' van' vac') := HH5.out.cell 24
  have c25 : w5.cell? ⟨w.heap.size, 25, none⟩ = some (.int .i64 vst) := HG5.out.cell 25
  have d25 : w5.cell? ⟨w.heap.size + 1, 25, none⟩ = some (.int .i64 vst) := HH5.out.cell 25
  have c26 : w5.cell? ⟨w.heap.size, 26, none⟩ = some (.int .i64 vcm) := HG5.out.cell 26
  have d26 : w5.cell? ⟨w.heap.size + 1, 26, none⟩ = some (.int .i64 vcm) := HH5.out.cell 26
  have c27 : w5.cell? ⟨w.heap.size, 27, none⟩ = some (.int .i64 vrs) := HG5.out.cell 27
  have d27 : w5.cell? ⟨w.heap.size + 1, 27, none⟩ = some (.int .i64 vrs) := HH5.out.cell 27
  have c28 : w5.cell? ⟨w.heap.size, 28, none⟩ = some (.int .i64 vcd) := HG5.out.cell 28
  have d28 : w5.cell? ⟨w.heap.size + 1, 28, none⟩ = some (.int .i64 vcd) := HH5.out.cell 28
  have c29 : w5.cell? ⟨w.heap.size, 29, none⟩ = some (.int .i64 vtb) := HG5.out.cell 29
  have d29 : w5.cell? ⟨w.heap.size + 1, 29, none⟩ = some (.int .i64 vtb) := HH5.out.cell 29
  have c30 : w5.cell? ⟨w.heap.size, 30, none⟩ = some (.slice vkA vkn vkc) := HG5.out.cell 30
  have d30 : w5.cell? ⟨w.heap.size + 1, 30, none⟩ = some (.slice vkA' vkn' vkc') := HH5.out.cell 30
  go_wp2_with fail
  refine (H6.out _ HK5.out).mono ?_
  rintro e w6 ⟨rfl, hk6⟩
  have HK6 := Lib.hid (HK5.out.then0 hk6)
  have HG6 := Lib.hid (HG5.out.kept hk6 (fun h => h))
  have HH6 := Lib.hid (HH5.out.kept hk6 (fun h => h))
  clear hk6 HK5 HG5 HH5
  clear c0 d0 c1 d1 c2 d2 c3 d3 c4 d4 c5 d5 c6 d6 c7 d7 c8 d8 c9 d9 c10 d10 c11 d11 c12 d12 c13 d13 c14 d14 c15 d15 c16 d16 c17 d17 c18 d18 c19 d19 c20 d20 c21 d21 c22 d22 c23 d23 c24 d24 c25 d25 c26 d26 c27 d27 c28 d28 c29 d29 c30 d30
  have c0 : w6.cell? ⟨w.heap.size, 0, none⟩ = some (.int .i64 kind) := HG6.out.cell 0
  have d0 : w6.cell? ⟨w.heap.size + 1, 0, none⟩ = some (.int .i64 kind) := HH6.out.cell 0
  have c1 : w6.cell? ⟨w.heap.size, 1, none⟩ = some (.int .i64 dev) := HG6.out.cell 1
  have d1 : w6.cell? ⟨w.heap.size + 1, 1, none⟩ = some (.int .i64 dev) := HH6.out.cell 1
  have c2 : w6.cell? ⟨w.heap.size, 2, none⟩ = some (.int .i64 round) := HG6.out.cell 2
  have d2 : w6.cell? ⟨w.heap.size + 1, 2, none⟩ = some (.int .i64 round) := HH6.out.cell 2
  have c3 : w6.cell? ⟨w.heap.size, 3, none⟩ = some (.int .i64 version) := HG6.out.cell 3
  have d3 : w6.cell? ⟨w.heap.size + 1, 3, none⟩ = some (.int .i64 version) := HH6.out.cell 3
  have c4 : w6.cell? ⟨w.heap.size, 4, none⟩ = some (.int .i64 budget) := HG6.out.cell 4
  have d4 : w6.cell? ⟨w.heap.size + 1, 4, none⟩ = some (.int .i64 budget) := HH6.out.cell 4
  have c5 : w6.cell? ⟨w.heap.size, 5, none⟩ = some (.slice wA wn wc) := HG6.out.cell 5
  have d5 : w6.cell? ⟨w.heap.size + 1, 5, none⟩ = some (.slice wA' wn' wc') := HH6.out.cell 5
  have c6 : w6.cell? ⟨w.heap.size, 6, none⟩ = some (.int .i64 cut) := HG6.out.cell 6
  have d6 : w6.cell? ⟨w.heap.size + 1, 6, none⟩ = some (.int .i64 cut) := HH6.out.cell 6
  have c7 : w6.cell? ⟨w.heap.size, 7, none⟩ = some (.slice hA hn hc) := HG6.out.cell 7
  have d7 : w6.cell? ⟨w.heap.size + 1, 7, none⟩ = some (.slice hA' hn' hc') := HH6.out.cell 7
  have c8 : w6.cell? ⟨w.heap.size, 8, none⟩ = some (.int .i64 fr) := HG6.out.cell 8
  have d8 : w6.cell? ⟨w.heap.size + 1, 8, none⟩ = some (.int .i64 fr) := HH6.out.cell 8
  have c9 : w6.cell? ⟨w.heap.size, 9, none⟩ = some (.int .i64 tO) := HG6.out.cell 9
  have d9 : w6.cell? ⟨w.heap.size + 1, 9, none⟩ = some (.int .i64 tO) := HH6.out.cell 9
  have c10 : w6.cell? ⟨w.heap.size, 10, none⟩ = some (.slice kA kn kc) := HG6.out.cell 10
  have d10 : w6.cell? ⟨w.heap.size + 1, 10, none⟩ = some (.slice kA' kn' kc') := HH6.out.cell 10
  have c11 : w6.cell? ⟨w.heap.size, 11, none⟩ = some (.int .i64 dec) := HG6.out.cell 11
  have d11 : w6.cell? ⟨w.heap.size + 1, 11, none⟩ = some (.int .i64 dec) := HH6.out.cell 11
  have c12 : w6.cell? ⟨w.heap.size, 12, none⟩ = some (.int .i64 part) := HG6.out.cell 12
  have d12 : w6.cell? ⟨w.heap.size + 1, 12, none⟩ = some (.int .i64 part) := HH6.out.cell 12
  have c13 : w6.cell? ⟨w.heap.size, 13, none⟩ = some (.int .i64 parts) := HG6.out.cell 13
  have d13 : w6.cell? ⟨w.heap.size + 1, 13, none⟩ = some (.int .i64 parts) := HH6.out.cell 13
  have c14 : w6.cell? ⟨w.heap.size, 14, none⟩ = some (.slice eA en ec) := HG6.out.cell 14
  have d14 : w6.cell? ⟨w.heap.size + 1, 14, none⟩ = some (.slice eA' en' ec') := HH6.out.cell 14
  have c15 : w6.cell? ⟨w.heap.size, 15, none⟩ = some (.int .i64 sdev) := HG6.out.cell 15
  have d15 : w6.cell? ⟨w.heap.size + 1, 15, none⟩ = some (.int .i64 sdev) := HH6.out.cell 15
  have c16 : w6.cell? ⟨w.heap.size, 16, none⟩ = some (.int .i64 sseq) := HG6.out.cell 16
  have d16 : w6.cell? ⟨w.heap.size + 1, 16, none⟩ = some (.int .i64 sseq) := HH6.out.cell 16
  have c17 : w6.cell? ⟨w.heap.size, 17, none⟩ = some (.int .i64 sproc) := HG6.out.cell 17
  have d17 : w6.cell? ⟨w.heap.size + 1, 17, none⟩ = some (.int .i64 sproc) := HH6.out.cell 17
  have c18 : w6.cell? ⟨w.heap.size, 18, none⟩ = some (.slice saA san sac) := HG6.out.cell 18
  have d18 : w6.cell? ⟨w.heap.size + 1, 18, none⟩ = some (.slice saA' san' sac') := HH6.out.cell 18
  have c19 : w6.cell? ⟨w.heap.size, 19, none⟩ = some (.bool srec) := HG6.out.cell 19
  have d19 : w6.cell? ⟨w.heap.size + 1, 19, none⟩ = some (.bool srec) := HH6.out.cell 19
  have c20 : w6.cell? ⟨w.heap.size, 20, none⟩ = some (.slice srA srn src) := HG6.out.cell 20
  have d20 : w6.cell? ⟨w.heap.size + 1, 20, none⟩ = some (.slice srA' srn' src') := HH6.out.cell 20
  have c21 : w6.cell? ⟨w.heap.size, 21, none⟩ = some (.int .i64 vdev) := HG6.out.cell 21
  have d21 : w6.cell? ⟨w.heap.size + 1, 21, none⟩ = some (.int .i64 vdev) := HH6.out.cell 21
  have c22 : w6.cell? ⟨w.heap.size, 22, none⟩ = some (.int .i64 vseq) := HG6.out.cell 22
  have d22 : w6.cell? ⟨w.heap.size + 1, 22, none⟩ = some (.int .i64 vseq) := HH6.out.cell 22
  have c23 : w6.cell? ⟨w.heap.size, 23, none⟩ = some (.int .i64 vproc) := HG6.out.cell 23
  have d23 : w6.cell? ⟨w.heap.size + 1, 23, none⟩ = some (.int .i64 vproc) := HH6.out.cell 23
  have c24 : w6.cell? ⟨w.heap.size, 24, none⟩ = some (.slice vaA van vac) := HG6.out.cell 24
  have d24 : w6.cell? ⟨w.heap.size + 1, 24, none⟩ = some (.slice vaA' van' vac') := HH6.out.cell 24
  have c25 : w6.cell? ⟨w.heap.size, 25, none⟩ = some (.int .i64 vst) := HG6.out.cell 25
  have d25 : w6.cell? ⟨w.heap.size + 1, 25, none⟩ = some (.int .i64 vst) := HH6.out.cell 25
  have c26 : w6.cell? ⟨w.heap.size, 26, none⟩ = some (.int .i64 vcm) := HG6.out.cell 26
  have d26 : w6.cell? ⟨w.heap.size + 1, 26, none⟩ = some (.int .i64 vcm) := HH6.out.cell 26
  have c27 : w6.cell? ⟨w.heap.size, 27, none⟩ = some (.int .i64 vrs) := HG6.out.cell 27
  have d27 : w6.cell? ⟨w.heap.size + 1, 27, none⟩ = some (.int .i64 vrs) := HH6.out.cell 27
  have c28 : w6.cell? ⟨w.heap.size, 28, none⟩ = some (.int .i64 vcd) := HG6.out.cell 28
  have d28 : w6.cell? ⟨w.heap.size + 1, 28, none⟩ = some (.int .i64 vcd) := HH6.out.cell 28
  have c29 : w6.cell? ⟨w.heap.size, 29, none⟩ = some (.int .i64 vtb) := HG6.out.cell 29
  have d29 : w6.cell? ⟨w.heap.size + 1, 29, none⟩ = some (.int .i64 vtb) := HH6.out.cell 29
  have c30 : w6.cell? ⟨w.heap.size, 30, none⟩ = some (.slice vkA vkn vkc) := HG6.out.cell 30
  have d30 : w6.cell? ⟨w.heap.size + 1, 30, none⟩ = some (.slice vkA' vkn' vkc') := HH6.out.cell 30
  have HX : Hid (RetBool true w (.returned (.bool true)) w6) := Lib.hid ⟨rfl, HK6.out⟩
  go_wp2
  go_ret
  exact HX.out

end Go.Proofs.YtffdaohmalmkfaaGreat
