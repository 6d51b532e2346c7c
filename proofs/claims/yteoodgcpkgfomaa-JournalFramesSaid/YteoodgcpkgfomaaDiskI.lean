/-
  Disk: Copy.
-/
import Derived.Test.YteoodgcpkgfomaaDiskH
import Derived.Deep.WholeRow
namespace Go.Proofs.Yteoodgcpkgfomaa
open Go.RowKit
set_option linter.unusedVariables false

def CopyRel (room plan : Int) (fs : List File) (off : Bool) (w : World) (i : Value) (wr : World) : Prop :=
  ∃ (k : Nat) (gs : List File), k ≤ 8 ∧ i = .int .i64 k ∧ gs.length = k ∧ gs.map File.ab = (fs.take k).map File.ab ∧ (∀ g ∈ gs, FileIn wr w.heap.size g) ∧ gs.Pairwise (fun a b => Apart a.v b.v) ∧
    Blk wr w.heap.size 87 (dCells room (gs ++ fs.drop k) off plan).toArray ∧ Kept Kno w wr

def CopyOk (room plan : Int) (fs : List File) (off : Bool) (w : World) (e : Ending) (w' : World) : Prop :=
  ∃ gs, e = .returned (.pointer (some ⟨w.heap.size, 0, none⟩)) ∧ Dsk w' w.heap.size w.heap.size room gs off plan ∧ gs.map File.ab = fs.map File.ab ∧ Kept Kno w w'

theorem used_ab (fs : List File) : used fs = ((fs.map File.ab).map fun p => p.1.length).sum := by simp [used, File.ab, Function.comp_def]

theorem eight {α : Type} {l : List α} (h : l.length = 8) : ∃ a b c d e f g i, l = [a, b, c, d, e, f, g, i] := by
  match l, h with
  | [a, b, c, d, e, f, g, i], _ => exact ⟨a, b, c, d, e, f, g, i, rfl⟩

theorem copy_step {room plan : Int} {fs gs : List File} {off : Bool} {w wr w1 : World} {k : Nat} {f : File} {A : Option Addr} {cap : Nat} (hlen : fs.length = 8) (hk : k < 8) (hf : fs[k]? = some f) (hs : f.s ≤ f.l.length) (hg : gs.length = k) (habs : gs.map File.ab = (fs.take k).map File.ab) (hfi : ∀ g ∈ gs, FileIn wr w.heap.size g) (hap : gs.Pairwise (fun a b => Apart a.v b.v))
    (hb : Blk wr w.heap.size 87 (dCells room (gs ++ fs.drop k) off plan).toArray) (hkk : Kept Kno w wr) (hown : OwnB w1 wr.heap.size 5 (.slice A f.l.length cap) f.l) (hk1 : Kept Kno wr w1) :
    CopyRel room plan fs off w (.int .i64 ((k : Int) + 1)) (w1.setCell ⟨w.heap.size, 1 + k * 2, none⟩ (.slice A f.l.length cap)) := by
  have hsz := hkk.size
  have hbl := hb.lt
  have hdrop : fs.drop k = f :: fs.drop (k + 1) := by
    obtain ⟨h1, h2⟩ := List.getElem?_eq_some_iff.1 hf
    rw [List.drop_eq_getElem_cons h1, h2]
  have hin : (gs ++ fs.drop k)[k]? = some f := by rw [List.getElem?_append_right (by omega), hg, hdrop]; simp
  have hset : (gs ++ fs.drop k).set k ⟨.slice A f.l.length cap, f.l, f.s⟩ = (gs ++ [⟨.slice A f.l.length cap, f.l, f.s⟩]) ++ fs.drop (k + 1) := by
    rw [List.set_append_right _ _ (by omega), hg, hdrop]
    simp
  have hne : (Value.slice A f.l.length cap).ownBlock ≠ some w.heap.size := fun e => by have := (own_base hown e).1; omega
  have hb2 := blk_v (hb.kept hk1 (fun h => h)) hin (.slice A f.l.length cap) f.l
  rw [hset] at hb2
  refine ⟨k + 1, gs ++ [⟨.slice A f.l.length cap, f.l, f.s⟩], by omega, by go_num, by simp [hg], ?_, ?_, ?_, hb2, (hkk.then0 hk1).setNew (Nat.le_refl _) _⟩
  · rw [List.map_append, habs, List.take_add_one, hf]
    simp [File.ab]
  · intro g hgm
    rcases List.mem_append.1 hgm with h | h
    · have h2 := hfi g h
      refine ⟨own_far (own_kept h2.1 hk1 (fun _ _ h => h)) ?_ _, h2.2⟩
      exact own_blk_ne h2.1 hb (by decide)
    · simp only [List.mem_singleton] at h
      subst h
      exact ⟨own_far (own_rebase hown (fun k hk => by have := (own_base hown hk).1; omega)) hne _, hs⟩
  · rw [List.pairwise_append]
    refine ⟨hap, List.pairwise_singleton _ _, ?_⟩
    intro a ha b hb k hka hkb
    simp only [List.mem_singleton] at hb
    subst hb
    have h1 := (own_base (hfi a ha).1 hka).2
    have h2 := (own_base hown hkb).1
    omega

theorem dsize {room plan : Int} {fs : List File} {off : Bool} (h : fs.length = 8) : (dCells room fs off plan).toArray.size = 19 := by
  have := fCells_length fs
  simp only [dCells, List.size_toArray, List.length_cons, List.length_append, List.length_nil]
  omega
theorem info_disk : (Try.prog.info? 87).map (·.size) = some 19 := by kernel_rfl
theorem own_one {w : World} {base : Nat} {e : TypeId} {size n : Nat} {v : Value} {xs : List Value} (h : w.ownsRow base e size v n xs) : v.oneCell' = true := by
  obtain ⟨A, cap, rfl⟩ := own_form h
  rfl
theorem dcells_one {room plan : Int} {fs : List File} {off : Bool} (h : ∀ f ∈ fs, f.v.oneCell' = true) : (dCells room fs off plan).toArray.all (·.oneCell') = true := by
  rw [List.all_toArray, List.all_eq_true]
  intro x hx
  simp only [dCells, fCells, List.mem_cons, List.mem_append, List.mem_flatMap, List.not_mem_nil, or_false] at hx
  rcases hx with rfl | ⟨f, hf, rfl | rfl⟩ | rfl | rfl
  · rfl
  · exact h f hf
  · rfl
  · rfl
  · rfl

set_option maxHeartbeats 4000000 in
theorem copy_any (base B : Nat) (room plan : Int) (fs : List File) (off : Bool) (w : World) (h : Dsk w base B room fs off plan) :
    Calls Try.prog 54 #[.pointer (some ⟨B, 0, none⟩)] w (CopyOk room plan fs off w) := by
  have HD := Lib.hid h
  have HB := Lib.hid h.blk
  have HS : Hid ((Try.prog.info? 87).map (·.size) = some (dCells room fs off plan).toArray.size) := Lib.hid (by rw [dsize h.len]; exact info_disk)
  have H1 := Lib.hid (dcells_one (room := room) (plan := plan) (off := off) (fun f hf => own_one (h.files f hf).1))
  have HZ := Lib.hid (dsize (room := room) (plan := plan) (off := off) h.len)
  clear h
  go_enter Try.func54, Try.ntmps54
  have hst : ∀ (c : Array Value), c.size = 19 → (storeCells ⟨w.heap.size, 0, none⟩ (dCells room fs off plan)).run Try.prog (w.alloc (.cells c 87)) = .ok () (w.alloc (.cells (dCells room fs off plan).toArray 87)) := fun c hc => by
    have := run_storeCells_new (P := Try.prog) w 87 c (dCells room fs off plan).toArray HS.out (by rw [HZ.out, hc]) H1.out
    simpa using this
  have hz19 : (dCells room fs off plan).length = 19 := by have := HZ.out; simpa using this
  go_wp2_with (refine wpList_load_row rfl 87 (.tmp 6) rfl B rfl 87 (dCells room fs off plan).toArray (0, 0) _ HB.out Try.underlying87 rfl HS.out ?_)
  clear hst hz19
  have hb0 : Blk (w.alloc (.cells (dCells room fs off plan).toArray 87)) w.heap.size 87 (dCells room fs off plan).toArray := Blk.new _ _ _
  have hk0 : Kept Kno w (w.alloc (.cells (dCells room fs off plan).toArray 87)) := (Kept.refl _ _).alloc _
  generalize w.alloc (.cells (dCells room fs off plan).toArray 87) = w0 at hb0 hk0 ⊢
  have HB0 := Lib.hid hb0
  have HK0 := Lib.hid hk0
  clear hb0 hk0
  go_loopw [8] (fun i wr => CopyRel room plan fs off w i wr) (fun i _ => 8 - (intOf i).toNat)
  case atStart => exact ⟨0, [], by omega, rfl, rfl, rfl, (fun g h => by cases h), List.Pairwise.nil, HB0.out, HK0.out⟩
  case round =>
    obtain ⟨k, gs, hk, rfl, hgl, habs, hfi, hap, hb, hkk⟩ := hrel
    by_cases hlt : k < 8
    · obtain ⟨f, hf⟩ : ∃ f, fs[k]? = some f := ⟨fs[k]'(by rw [HD.out.len]; exact hlt), List.getElem?_eq_getElem (by rw [HD.out.len]; exact hlt)⟩
      have hdr := HD.out.kept0 hkk
      obtain ⟨c1, -⟩ := hdr.c_file hf
      obtain ⟨hown, hsl⟩ := hdr.files f (List.mem_of_getElem? hf)
      obtain ⟨A, cap, hv⟩ := own_form hown
      have hu := used_le (List.mem_of_getElem? hf)
      have hr := HD.out.room1
      have hfi2 := HD.out.fits
      have hl : f.l.length ≤ 140737488355328 := by omega
      have HBS : Hid (Bs wr (.slice A f.l.length cap) f.l) := Lib.hid (by have := OwnB.bs hown; rwa [hv] at this)
      rw [hv] at c1
      have hin : (gs ++ fs.drop k)[k]? = some f := by
        obtain ⟨h1, h2⟩ := List.getElem?_eq_some_iff.1 hf
        rw [List.getElem?_append_right (by omega), hgl, List.drop_eq_getElem_cons h1, h2]; simp
      have hfl : k < (gs ++ fs.drop k).length := (List.getElem?_eq_some_iff.1 hin).1
      have d1 : wr.cell? ⟨w.heap.size, 1 + k * 2, none⟩ = some (.slice A f.l.length cap) := by
        have h5 := fCells_length (gs ++ fs.drop k)
        rw [hb.cell, show 1 + k * 2 = k * 2 + 1 from by omega]
        simp only [dCells, List.getElem?_toArray, List.getElem?_cons_succ]
        rw [List.getElem?_append_left (by omega), (fCells_at _ k f hin).1, hv]
      have d2 := hb.frozen (1 + k * 2)
      have hsz := hb.lt
      have HR := Lib.hid (And.intro hgl (And.intro habs (And.intro hfi (And.intro hap (And.intro hb hkk)))))
      have HF := Lib.hid hf
      have hk0 : (0 : Int) ≤ (k : Int) := by omega
      have hk8 : (k : Int) < 8 := by omega
      clear hgl habs hfi hap hb hkk hf hdr hown hv hin hfl hfi2
      go_wp2_with fail
      refine (sclone_any _ f.l _ HBS.out hl).mono ?_
      rintro e w1 ⟨A1, cap1, rfl, hown1, hk1⟩
      have e1 := hk1.cell_some d1 (fun h => h)
      have e2 := hk1.frozen_no d2 hsz (fun h => h)
      have HO := Lib.hid hown1
      clear hown1
      go_wp2
      go_roundw
      case rel => obtain ⟨r1, r2, r3, r4, r5, r6⟩ := HR.out; exact copy_step HD.out.len hlt HF.out hsl r1 r2 r3 r4 r5 r6 HO.out hk1
      case measure => simp [intOf]; omega
    · have hk8 : ¬ (k : Int) < 8 := by omega
      obtain rfl : k = 8 := by omega
      have ht : fs.take 8 = fs := List.take_of_length_le (by rw [HD.out.len]; omega)
      have hd : fs.drop 8 = [] := List.drop_of_length_le (by rw [HD.out.len]; omega)
      rw [ht] at habs
      rw [hd, List.append_nil] at hb
      have hx : CopyOk room plan fs off w (.returned (.pointer (some ⟨w.heap.size, 0, none⟩))) wr :=
        ⟨gs, rfl, ⟨Nat.le_refl _, hb, hgl, hfi, hap, by rw [used_ab, habs, ← used_ab]; exact HD.out.fits, HD.out.room0, HD.out.room1, HD.out.plan0, HD.out.plan1⟩, habs, hkk⟩
      have HX := Lib.hid hx
      clear hgl habs hfi hap hb hkk hx ht hd
      go_wp2
      go_ret
      exact HX.out

end Go.Proofs.Yteoodgcpkgfomaa
