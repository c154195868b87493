/- Own work over the model of the kit. -/
import Derived.Test.YtenlakaideefbaaDoorD18
import Derived.Test.YtenlakaideefbaaDoorD19
set_option linter.unnecessarySimpa false
set_option linter.unusedSimpArgs false
set_option linter.unusedVariables false
set_option maxHeartbeats 4000000
set_option maxRecDepth 8000
namespace Go.AM
open Go Go.Proofs
def outP (q : Ins × LP) : Option Ins := if q.2.2 && decide (q.2.1 = []) then some q.1 else none
def outR (q : Ins × Bool) : Option Ins := if q.2 then some q.1 else none
theorem numS_cons (w : Str) (r : List Str) (f : Bool) : numS (w :: r, f) = if numN w < 0 then (0, (r, false)) else (numN w, (r, f)) := rfl
theorem numS_nil (f : Bool) : numS ([], f) = (0, ([], false)) := rfl
theorem protS_cons (w : Str) (r : List Str) (f : Bool) : protS (w :: r, f) = if w = [114] then (1, (r, f)) else if w = [114, 119] then (3, (r, f)) else (0, (r, false)) := rfl
theorem protS_nil (f : Bool) : protS ([], f) = (0, ([], false)) := rfl
theorem numS_bad (l : List Str) : (numS (l, false)).2.2 = false := by
 cases l with
 | nil => rfl
 | cons w r => rw [numS_cons]; split <;> rfl
def twoW (w : Str) : Prop := w = wUnmap ∨ w = wLock ∨ w = wUnlock ∨ w = wLoad ∨ w = wTruncate
theorem insS_cons (w : Str) (r : List Str) (f : Bool) : insS (w :: r, f) = insW w (r, f) := rfl
theorem read1 (mk : Int -> Ins) (r : List Str) : outP (mk (numS (r, true)).1, (numS (r, true)).2) =
  match r with | [a] => if numN a < 0 then none else some (mk (numN a)) | _ => none := by
 match r with
 | [] =>
  simp [numS_cons, numS_nil, protS_cons, protS_nil, outP, rprot]
 | [a] =>
  by_cases ha : numN a < 0 <;> simp [ha, numS_cons, numS_nil, protS_cons, protS_nil, outP, rprot]
 | a :: b :: z =>
  by_cases ha : numN a < 0 <;> simp [ha, numS_cons, numS_nil, protS_cons, protS_nil, outP, rprot]
theorem read2 (mk : Int -> Int -> Ins) (r : List Str) : outP (mk (numS (r, true)).1 (numS (numS (r, true)).2).1, (numS (numS (r, true)).2).2) =
  match r with | [a, b] => if numN a < 0 ∨ numN b < 0 then none else some (mk (numN a) (numN b)) | _ => none := by
 match r with
 | [] =>
  simp [numS_cons, numS_nil, protS_cons, protS_nil, outP, rprot]
 | [a] =>
  by_cases ha : numN a < 0 <;> simp [ha, numS_cons, numS_nil, protS_cons, protS_nil, outP, rprot]
 | [a, b] =>
  by_cases ha : numN a < 0 <;> by_cases hb : numN b < 0 <;> simp [ha, hb, numS_cons, numS_nil, protS_cons, protS_nil, outP, rprot]
 | a :: b :: c :: z =>
  by_cases ha : numN a < 0 <;> by_cases hb : numN b < 0 <;> simp [ha, hb, numS_cons, numS_nil, protS_cons, protS_nil, outP, rprot]
theorem read3 (mk : Int -> Int -> Int -> Ins) (r : List Str) : outP (mk (numS (r, true)).1 (numS (numS (r, true)).2).1 (numS (numS (numS (r, true)).2).2).1, (numS (numS (numS (r, true)).2).2).2) =
  match r with | [a, b, c] => if numN a < 0 ∨ numN b < 0 ∨ numN c < 0 then none else some (mk (numN a) (numN b) (numN c)) | _ => none := by
 match r with
 | [] =>
  simp [numS_cons, numS_nil, protS_cons, protS_nil, outP, rprot]
 | [a] =>
  by_cases ha : numN a < 0 <;> simp [ha, numS_cons, numS_nil, protS_cons, protS_nil, outP, rprot]
 | [a, b] =>
  by_cases ha : numN a < 0 <;> by_cases hb : numN b < 0 <;> simp [ha, hb, numS_cons, numS_nil, protS_cons, protS_nil, outP, rprot]
 | [a, b, c] =>
  by_cases ha : numN a < 0 <;> by_cases hb : numN b < 0 <;> by_cases hc : numN c < 0 <;> simp [ha, hb, hc, numS_cons, numS_nil, protS_cons, protS_nil, outP, rprot]
 | a :: b :: c :: d :: z =>
  by_cases ha : numN a < 0 <;> by_cases hb : numN b < 0 <;> by_cases hc : numN c < 0 <;> simp [ha, hb, hc, numS_cons, numS_nil, protS_cons, protS_nil, outP, rprot]
theorem read4 (mk : Int -> Int -> Int -> Int -> Ins) (r : List Str) : outP (mk (numS (r, true)).1 (numS (numS (r, true)).2).1 (numS (numS (numS (r, true)).2).2).1 (numS (numS (numS (numS (r, true)).2).2).2).1, (numS (numS (numS (numS (r, true)).2).2).2).2) =
  match r with | [a, b, c, d] => if numN a < 0 ∨ numN b < 0 ∨ numN c < 0 ∨ numN d < 0 then none else some (mk (numN a) (numN b) (numN c) (numN d)) | _ => none := by
 match r with
 | [] =>
  simp [numS_cons, numS_nil, protS_cons, protS_nil, outP, rprot]
 | [a] =>
  by_cases ha : numN a < 0 <;> simp [ha, numS_cons, numS_nil, protS_cons, protS_nil, outP, rprot]
 | [a, b] =>
  by_cases ha : numN a < 0 <;> by_cases hb : numN b < 0 <;> simp [ha, hb, numS_cons, numS_nil, protS_cons, protS_nil, outP, rprot]
 | [a, b, c] =>
  by_cases ha : numN a < 0 <;> by_cases hb : numN b < 0 <;> by_cases hc : numN c < 0 <;> simp [ha, hb, hc, numS_cons, numS_nil, protS_cons, protS_nil, outP, rprot]
 | [a, b, c, d] =>
  by_cases ha : numN a < 0 <;> by_cases hb : numN b < 0 <;> by_cases hc : numN c < 0 <;> by_cases hd : numN d < 0 <;> simp [ha, hb, hc, hd, numS_cons, numS_nil, protS_cons, protS_nil, outP, rprot]
 | a :: b :: c :: d :: e :: z =>
  by_cases ha : numN a < 0 <;> by_cases hb : numN b < 0 <;> by_cases hc : numN c < 0 <;> by_cases hd : numN d < 0 <;> simp [ha, hb, hc, hd, numS_cons, numS_nil, protS_cons, protS_nil, outP, rprot]
theorem read3p (mk : Int -> Int -> Int -> Ins) (r : List Str) : outP (mk (numS (r, true)).1 (numS (numS (r, true)).2).1 (protS (numS (numS (r, true)).2).2).1, (protS (numS (numS (r, true)).2).2).2) =
  match r with | [a, b, c] => if numN a < 0 ∨ numN b < 0 ∨ rprot c = 0 then none else some (mk (numN a) (numN b) (rprot c)) | _ => none := by
 match r with
 | [] =>
  simp [numS_cons, numS_nil, protS_cons, protS_nil, outP, rprot]
 | [a] =>
  by_cases ha : numN a < 0 <;> simp [ha, numS_cons, numS_nil, protS_cons, protS_nil, outP, rprot]
 | [a, b] =>
  by_cases ha : numN a < 0 <;> by_cases hb : numN b < 0 <;> simp [ha, hb, numS_cons, numS_nil, protS_cons, protS_nil, outP, rprot]
 | [a, b, c] =>
  by_cases ha : numN a < 0 <;> by_cases hb : numN b < 0 <;> by_cases hc : c = [114] <;> by_cases gc : c = [114, 119] <;> simp [ha, hb, hc, gc, numS_cons, numS_nil, protS_cons, protS_nil, outP, rprot]
 | a :: b :: c :: d :: z =>
  by_cases ha : numN a < 0 <;> by_cases hb : numN b < 0 <;> by_cases hc : c = [114] <;> by_cases gc : c = [114, 119] <;> simp [ha, hb, hc, gc, numS_cons, numS_nil, protS_cons, protS_nil, outP, rprot]
theorem wLU : (wUnlock = wLock) = False := eq_false (by decide)
theorem buildI_2 (p : Int) (n : List Int) (f : Str) : buildI 2 p n f = ⟨2, n.getD 1 0, n.getD 2 0, 0, 0, 0, 0, 0⟩ := rfl
theorem buildI_3 (p : Int) (n : List Int) (f : Str) : buildI 3 p n f = ⟨3, n.getD 1 0, n.getD 2 0, 0, 0, 0, p, 0⟩ := rfl
theorem buildI_4 (p : Int) (n : List Int) (f : Str) : buildI 4 p n f = ⟨4, n.getD 1 0, n.getD 2 0, 0, if f = wLock then 1 else 0, 0, 0, 0⟩ := rfl
theorem buildI_5 (p : Int) (n : List Int) (f : Str) : buildI 5 p n f = ⟨5, n.getD 1 0, 0, n.getD 2 0, n.getD 3 0, 0, 0, 0⟩ := rfl
theorem buildI_6 (p : Int) (n : List Int) (f : Str) : buildI 6 p n f = ⟨6, n.getD 1 0, 0, n.getD 2 0, n.getD 3 0, 0, 0, 0⟩ := rfl
theorem buildI_7 (p : Int) (n : List Int) (f : Str) : buildI 7 p n f = ⟨7, n.getD 2 0, 0, n.getD 3 0, n.getD 4 0, n.getD 1 0, 0, 0⟩ := rfl
theorem buildI_8 (p : Int) (n : List Int) (f : Str) : buildI 8 p n f = ⟨8, n.getD 2 0, 0, n.getD 3 0, n.getD 4 0, n.getD 1 0, 0, 0⟩ := rfl
theorem buildI_9 (p : Int) (n : List Int) (f : Str) : buildI 9 p n f = ⟨9, 0, n.getD 2 0, 0, 0, n.getD 1 0, 0, 0⟩ := rfl
theorem buildI_10 (p : Int) (n : List Int) (f : Str) : buildI 10 p n f = ⟨10, 0, n.getD 2 0, 0, 0, n.getD 1 0, 0, 0⟩ := rfl
theorem buildI_11 (p : Int) (n : List Int) (f : Str) : buildI 11 p n f = ⟨11, 0, 0, 0, n.getD 1 0, 0, 0, 0⟩ := rfl
theorem rd_wUnmap (r : List Str) : outP (insW wUnmap (r, true)) = outR (rinsW (wUnmap :: r)) := by
 have h1 : insW wUnmap (r, true) = ((⟨2, (numS (r, true)).1, (numS (numS (r, true)).2).1, 0, 0, 0, 0, 0⟩ : Ins), (numS (numS (r, true)).2).2) := by unfold insW; rw [if_neg (by decide), if_pos rfl]
 have hr := read2 (fun a b => ⟨2, a, b, 0, 0, 0, 0, 0⟩) r
 rw [h1, hr]
 clear h1 hr
 have ho : opW wUnmap = (2, 3) := rfl
 unfold rinsW
 simp only [List.getD_cons_zero, ho]
 match r with
 | [] =>
  rw [if_pos (by simp [badW])]; rfl
 | [a] =>
  rw [if_pos (by simp [badW])]; rfl
 | [a, b] =>
  by_cases ha : numN a < 0
  ·simp [ha, badW, outR, rloop, finW]
  by_cases hb : numN b < 0
  ·simp [ha, hb, badW, outR, rloop, finW]
  simp [ha, hb, badW, outR, rloop, finW, List.set, buildI_2, wLU]
 | a :: b :: c :: z =>
  rw [if_pos (by simp [badW]; omega)]; rfl
theorem rd_wProtect (r : List Str) : outP (insW wProtect (r, true)) = outR (rinsW (wProtect :: r)) := by
 have h1 : insW wProtect (r, true) = ((⟨3, (numS (r, true)).1, (numS (numS (r, true)).2).1, 0, 0, 0, (protS (numS (numS (r, true)).2).2).1, 0⟩ : Ins), (protS (numS (numS (r, true)).2).2).2) := by unfold insW; rw [if_neg (by decide), if_neg (by decide), if_pos rfl]
 have hr := read3p (fun a b c => ⟨3, a, b, 0, 0, 0, c, 0⟩) r
 rw [h1, hr]
 clear h1 hr
 have ho : opW wProtect = (3, 4) := rfl
 unfold rinsW
 simp only [List.getD_cons_zero, ho]
 match r with
 | [] =>
  rw [if_pos (by simp [badW])]; rfl
 | [a] =>
  rw [if_pos (by simp [badW])]; rfl
 | [a, b] =>
  rw [if_pos (by simp [badW])]; rfl
 | [a, b, c] =>
  by_cases ha : numN a < 0
  ·simp [ha, badW, outR, rloop, finW]
  by_cases hb : numN b < 0
  ·simp [ha, hb, badW, outR, rloop, finW]
  by_cases hc : rprot c = 0
  ·simp [ha, hb, hc, badW, outR, rloop, finW]
  simp [ha, hb, hc, badW, outR, rloop, finW, List.set, buildI_3, wLU]
 | a :: b :: c :: d :: z =>
  rw [if_pos (by simp [badW]; omega)]; rfl
theorem rd_wLock (r : List Str) : outP (insW wLock (r, true)) = outR (rinsW (wLock :: r)) := by
 have h1 : insW wLock (r, true) = ((⟨4, (numS (r, true)).1, (numS (numS (r, true)).2).1, 0, 1, 0, 0, 0⟩ : Ins), (numS (numS (r, true)).2).2) := by unfold insW; rw [if_neg (by decide), if_neg (by decide), if_neg (by decide), if_pos rfl]
 have hr := read2 (fun a b => ⟨4, a, b, 0, 1, 0, 0, 0⟩) r
 rw [h1, hr]
 clear h1 hr
 have ho : opW wLock = (4, 3) := rfl
 unfold rinsW
 simp only [List.getD_cons_zero, ho]
 match r with
 | [] =>
  rw [if_pos (by simp [badW])]; rfl
 | [a] =>
  rw [if_pos (by simp [badW])]; rfl
 | [a, b] =>
  by_cases ha : numN a < 0
  ·simp [ha, badW, outR, rloop, finW]
  by_cases hb : numN b < 0
  ·simp [ha, hb, badW, outR, rloop, finW]
  simp [ha, hb, badW, outR, rloop, finW, List.set, buildI_4, wLU]
 | a :: b :: c :: z =>
  rw [if_pos (by simp [badW]; omega)]; rfl
theorem rd_wUnlock (r : List Str) : outP (insW wUnlock (r, true)) = outR (rinsW (wUnlock :: r)) := by
 have h1 : insW wUnlock (r, true) = ((⟨4, (numS (r, true)).1, (numS (numS (r, true)).2).1, 0, 0, 0, 0, 0⟩ : Ins), (numS (numS (r, true)).2).2) := by unfold insW; rw [if_neg (by decide), if_neg (by decide), if_neg (by decide), if_neg (by decide), if_pos rfl]
 have hr := read2 (fun a b => ⟨4, a, b, 0, 0, 0, 0, 0⟩) r
 rw [h1, hr]
 clear h1 hr
 have ho : opW wUnlock = (4, 3) := rfl
 unfold rinsW
 simp only [List.getD_cons_zero, ho]
 match r with
 | [] =>
  rw [if_pos (by simp [badW])]; rfl
 | [a] =>
  rw [if_pos (by simp [badW])]; rfl
 | [a, b] =>
  by_cases ha : numN a < 0
  ·simp [ha, badW, outR, rloop, finW]
  by_cases hb : numN b < 0
  ·simp [ha, hb, badW, outR, rloop, finW]
  simp [ha, hb, badW, outR, rloop, finW, List.set, buildI_4, wLU]
 | a :: b :: c :: z =>
  rw [if_pos (by simp [badW]; omega)]; rfl
theorem rd_wLoad (r : List Str) : outP (insW wLoad (r, true)) = outR (rinsW (wLoad :: r)) := by
 have h1 : insW wLoad (r, true) = ((⟨5, (numS (r, true)).1, 0, (numS (numS (r, true)).2).1, 0, 0, 0, 0⟩ : Ins), (numS (numS (r, true)).2).2) := by unfold insW; rw [if_neg (by decide), if_neg (by decide), if_neg (by decide), if_neg (by decide), if_neg (by decide), if_pos rfl]
 have hr := read2 (fun a b => ⟨5, a, 0, b, 0, 0, 0, 0⟩) r
 rw [h1, hr]
 clear h1 hr
 have ho : opW wLoad = (5, 3) := rfl
 unfold rinsW
 simp only [List.getD_cons_zero, ho]
 match r with
 | [] =>
  rw [if_pos (by simp [badW])]; rfl
 | [a] =>
  rw [if_pos (by simp [badW])]; rfl
 | [a, b] =>
  by_cases ha : numN a < 0
  ·simp [ha, badW, outR, rloop, finW]
  by_cases hb : numN b < 0
  ·simp [ha, hb, badW, outR, rloop, finW]
  simp [ha, hb, badW, outR, rloop, finW, List.set, buildI_5, wLU]
 | a :: b :: c :: z =>
  rw [if_pos (by simp [badW]; omega)]; rfl
theorem rd_wStore (r : List Str) : outP (insW wStore (r, true)) = outR (rinsW (wStore :: r)) := by
 have h1 : insW wStore (r, true) = ((⟨6, (numS (r, true)).1, 0, (numS (numS (r, true)).2).1, (numS (numS (numS (r, true)).2).2).1, 0, 0, 0⟩ : Ins), (numS (numS (numS (r, true)).2).2).2) := by unfold insW; rw [if_neg (by decide), if_neg (by decide), if_neg (by decide), if_neg (by decide), if_neg (by decide), if_neg (by decide), if_pos rfl]
 have hr := read3 (fun a b c => ⟨6, a, 0, b, c, 0, 0, 0⟩) r
 rw [h1, hr]
 clear h1 hr
 have ho : opW wStore = (6, 4) := rfl
 unfold rinsW
 simp only [List.getD_cons_zero, ho]
 match r with
 | [] =>
  rw [if_pos (by simp [badW])]; rfl
 | [a] =>
  rw [if_pos (by simp [badW])]; rfl
 | [a, b] =>
  rw [if_pos (by simp [badW])]; rfl
 | [a, b, c] =>
  by_cases ha : numN a < 0
  ·simp [ha, badW, outR, rloop, finW]
  by_cases hb : numN b < 0
  ·simp [ha, hb, badW, outR, rloop, finW]
  by_cases hc : numN c < 0
  ·simp [ha, hb, hc, badW, outR, rloop, finW]
  simp [ha, hb, hc, badW, outR, rloop, finW, List.set, buildI_6, wLU]
 | a :: b :: c :: d :: z =>
  rw [if_pos (by simp [badW]; omega)]; rfl
theorem rd_wRead (r : List Str) : outP (insW wRead (r, true)) = outR (rinsW (wRead :: r)) := by
 have h1 : insW wRead (r, true) = ((⟨7, (numS (numS (r, true)).2).1, 0, (numS (numS (numS (r, true)).2).2).1, 0, (numS (r, true)).1, 0, 0⟩ : Ins), (numS (numS (numS (r, true)).2).2).2) := by unfold insW; rw [if_neg (by decide), if_neg (by decide), if_neg (by decide), if_neg (by decide), if_neg (by decide), if_neg (by decide), if_neg (by decide), if_pos rfl]
 have hr := read3 (fun a b c => ⟨7, b, 0, c, 0, a, 0, 0⟩) r
 rw [h1, hr]
 clear h1 hr
 have ho : opW wRead = (7, 4) := rfl
 unfold rinsW
 simp only [List.getD_cons_zero, ho]
 match r with
 | [] =>
  rw [if_pos (by simp [badW])]; rfl
 | [a] =>
  rw [if_pos (by simp [badW])]; rfl
 | [a, b] =>
  rw [if_pos (by simp [badW])]; rfl
 | [a, b, c] =>
  by_cases ha : numN a < 0
  ·simp [ha, badW, outR, rloop, finW]
  by_cases hb : numN b < 0
  ·simp [ha, hb, badW, outR, rloop, finW]
  by_cases hc : numN c < 0
  ·simp [ha, hb, hc, badW, outR, rloop, finW]
  simp [ha, hb, hc, badW, outR, rloop, finW, List.set, buildI_7, wLU]
 | a :: b :: c :: d :: z =>
  rw [if_pos (by simp [badW]; omega)]; rfl
theorem rd_wWrite (r : List Str) : outP (insW wWrite (r, true)) = outR (rinsW (wWrite :: r)) := by
 have h1 : insW wWrite (r, true) = ((⟨8, (numS (numS (r, true)).2).1, 0, (numS (numS (numS (r, true)).2).2).1, (numS (numS (numS (numS (r, true)).2).2).2).1, (numS (r, true)).1, 0, 0⟩ : Ins), (numS (numS (numS (numS (r, true)).2).2).2).2) := by unfold insW; rw [if_neg (by decide), if_neg (by decide), if_neg (by decide), if_neg (by decide), if_neg (by decide), if_neg (by decide), if_neg (by decide), if_neg (by decide), if_pos rfl]
 have hr := read4 (fun a b c d => ⟨8, b, 0, c, d, a, 0, 0⟩) r
 rw [h1, hr]
 clear h1 hr
 have ho : opW wWrite = (8, 5) := rfl
 unfold rinsW
 simp only [List.getD_cons_zero, ho]
 match r with
 | [] =>
  rw [if_pos (by simp [badW])]; rfl
 | [a] =>
  rw [if_pos (by simp [badW])]; rfl
 | [a, b] =>
  rw [if_pos (by simp [badW])]; rfl
 | [a, b, c] =>
  rw [if_pos (by simp [badW])]; rfl
 | [a, b, c, d] =>
  by_cases ha : numN a < 0
  ·simp [ha, badW, outR, rloop, finW]
  by_cases hb : numN b < 0
  ·simp [ha, hb, badW, outR, rloop, finW]
  by_cases hc : numN c < 0
  ·simp [ha, hb, hc, badW, outR, rloop, finW]
  by_cases hd : numN d < 0
  ·simp [ha, hb, hc, hd, badW, outR, rloop, finW]
  simp [ha, hb, hc, hd, badW, outR, rloop, finW, List.set, buildI_8, wLU]
 | a :: b :: c :: d :: e :: z =>
  rw [if_pos (by simp [badW]; omega)]; rfl
theorem rd_wTruncate (r : List Str) : outP (insW wTruncate (r, true)) = outR (rinsW (wTruncate :: r)) := by
 have h1 : insW wTruncate (r, true) = ((⟨9, 0, (numS (numS (r, true)).2).1, 0, 0, (numS (r, true)).1, 0, 0⟩ : Ins), (numS (numS (r, true)).2).2) := by unfold insW; rw [if_neg (by decide), if_neg (by decide), if_neg (by decide), if_neg (by decide), if_neg (by decide), if_neg (by decide), if_neg (by decide), if_neg (by decide), if_neg (by decide), if_pos rfl]
 have hr := read2 (fun a b => ⟨9, 0, b, 0, 0, a, 0, 0⟩) r
 rw [h1, hr]
 clear h1 hr
 have ho : opW wTruncate = (9, 3) := rfl
 unfold rinsW
 simp only [List.getD_cons_zero, ho]
 match r with
 | [] =>
  rw [if_pos (by simp [badW])]; rfl
 | [a] =>
  rw [if_pos (by simp [badW])]; rfl
 | [a, b] =>
  by_cases ha : numN a < 0
  ·simp [ha, badW, outR, rloop, finW]
  by_cases hb : numN b < 0
  ·simp [ha, hb, badW, outR, rloop, finW]
  simp [ha, hb, badW, outR, rloop, finW, List.set, buildI_9, wLU]
 | a :: b :: c :: z =>
  rw [if_pos (by simp [badW]; omega)]; rfl
theorem rd_wSync (r : List Str) : outP (insW wSync (r, true)) = outR (rinsW (wSync :: r)) := by
 have h1 : insW wSync (r, true) = ((⟨10, 0, 0, 0, 0, (numS (r, true)).1, 0, 0⟩ : Ins), (numS (r, true)).2) := by unfold insW; rw [if_neg (by decide), if_neg (by decide), if_neg (by decide), if_neg (by decide), if_neg (by decide), if_neg (by decide), if_neg (by decide), if_neg (by decide), if_neg (by decide), if_neg (by decide), if_pos rfl]
 have hr := read1 (fun a => ⟨10, 0, 0, 0, 0, a, 0, 0⟩) r
 rw [h1, hr]
 clear h1 hr
 have ho : opW wSync = (10, 2) := rfl
 unfold rinsW
 simp only [List.getD_cons_zero, ho]
 match r with
 | [] =>
  rw [if_pos (by simp [badW])]; rfl
 | [a] =>
  by_cases ha : numN a < 0
  ·simp [ha, badW, outR, rloop, finW]
  simp [ha, badW, outR, rloop, finW, List.set, buildI_10, wLU]
 | a :: b :: z =>
  rw [if_pos (by simp [badW]; omega)]; rfl
theorem rd_wFork (r : List Str) : outP (insW wFork (r, true)) = outR (rinsW (wFork :: r)) := by
 have h1 : insW wFork (r, true) = ((⟨11, 0, 0, 0, (numS (r, true)).1, 0, 0, 0⟩ : Ins), (numS (r, true)).2) := by unfold insW; rw [if_neg (by decide), if_neg (by decide), if_neg (by decide), if_neg (by decide), if_neg (by decide), if_neg (by decide), if_neg (by decide), if_neg (by decide), if_neg (by decide), if_neg (by decide), if_neg (by decide), if_pos rfl]
 have hr := read1 (fun a => ⟨11, 0, 0, 0, a, 0, 0, 0⟩) r
 rw [h1, hr]
 clear h1 hr
 have ho : opW wFork = (11, 2) := rfl
 unfold rinsW
 simp only [List.getD_cons_zero, ho]
 match r with
 | [] =>
  rw [if_pos (by simp [badW])]; rfl
 | [a] =>
  by_cases ha : numN a < 0
  ·simp [ha, badW, outR, rloop, finW]
  simp [ha, badW, outR, rloop, finW, List.set, buildI_11, wLU]
 | a :: b :: z =>
  rw [if_pos (by simp [badW]; omega)]; rfl
end Go.AM
namespace Go.AM
open Go Go.Proofs
theorem rd_wExit (r : List Str) : outP (insW wExit (r, true)) = outR (rinsW (wExit :: r)) := by
 have h1 : insW wExit (r, true) = ((⟨12, 0, 0, 0, 0, 0, 0, 0⟩ : Ins), (r, true)) := by
  unfold insW
  rw [if_neg (by decide), if_neg (by decide), if_neg (by decide), if_neg (by decide), if_neg (by decide), if_neg (by decide), if_neg (by decide), if_neg (by decide), if_neg (by decide), if_neg (by decide), if_neg (by decide), if_neg (by decide), if_pos rfl]
 have ho : opW wExit = (12, 1) := rfl
 rw [h1]
 clear h1
 unfold rinsW
 simp only [List.getD_cons_zero, ho]
 match r with
 | [] => rfl
 | a :: z =>
  rw [if_pos (by simp [badW]; omega)]; rfl
theorem rd_else (w : Str) (r : List Str) (h0 : ¬ w = wMap) (h1 : ¬ w = wUnmap) (h2 : ¬ w = wProtect) (h3 : ¬ w = wLock) (h4 : ¬ w = wUnlock) (h5 : ¬ w = wLoad) (h6 : ¬ w = wStore) (h7 : ¬ w = wRead) (h8 : ¬ w = wWrite) (h9 : ¬ w = wTruncate) (h10 : ¬ w = wSync) (h11 : ¬ w = wFork) (h12 : ¬ w = wExit) :
  outP (insW w (r, true)) = outR (rinsW (w :: r)) := by
 have e : insW w (r, true) = (zI, (r, false)) := by unfold insW; rw [if_neg h0, if_neg h1, if_neg h2, if_neg h3, if_neg h4, if_neg h5, if_neg h6, if_neg h7, if_neg h8, if_neg h9, if_neg h10, if_neg h11, if_neg h12]
 have ho : opW w = (0, 0) := by
  unfold wMap wUnmap wProtect wLock wUnlock wLoad wStore wRead wWrite wTruncate wSync wFork wExit at *
  unfold opW; rw [if_neg h0, if_neg h1, if_neg h2, if_neg h3, if_neg h4, if_neg h5, if_neg h6, if_neg h7, if_neg h8, if_neg h9, if_neg h10, if_neg h11, if_neg h12]
 rw [e]
 unfold rinsW
 simp only [List.getD_cons_zero, ho]
 rw [if_pos (by simp [badW])]; rfl
theorem atS_cons (w x : Str) (r : List Str) (f : Bool) : atS w (x :: r, f) = if x = w then (true, (r, f)) else (false, (x :: r, f)) := rfl
theorem atS_bad (w : Str) (l : List Str) : (atS w (l, false)).2.2 = false := by
 cases l with
 | nil => rfl
 | cons x r => rw [atS_cons]; split <;> rfl
theorem mapE_bad (pg ct pr fl : Int) (b : Bool) (l : List Str) : (mapE pg ct pr fl (b, (l, false))).2.2 = false := by
 cases b with
 | false => rfl
 | true =>
  show (numS (numS (l, false)).2).2.2 = false
  have h := numS_bad l
  generalize numS (l, false) = q at *
  obtain ⟨x, l2, f⟩ := q
  simp only at h
  subst h
  exact numS_bad l2
theorem outP_false {q : Ins × LP} (h : q.2.2 = false) : outP q = none := by unfold outP; simp [h]
theorem mapTail_bad (pg ct pr fl : Int) (w : List Str) : outP (mapE pg ct pr fl (atS wFile (w, false))) = none := by
 have h := atS_bad wFile w
 generalize atS wFile (w, false) = q at *
 obtain ⟨b, l, f⟩ := q
 simp only at h
 subst h
 exact outP_false (mapE_bad _ _ _ _ _ _)
theorem mapE_opt (pg ct pr fl : Int) (w : List Str) : outP (mapE pg ct pr fl (atS wFile (w, true))) = outR (optE ⟨1, pg, ct, 0, 0, -1, pr, fl⟩ w) := by
 match w with
 | [] => rfl
 | h :: t =>
  rw [atS_cons]
  by_cases hf : h = wFile
  ·rw [if_pos hf]
   match t with
   | [] => simp [mapE, numS_nil, outP, outR, optE]
   | [a] =>
    by_cases ha : numN a < 0 <;> simp [mapE, numS_nil, numS_cons, outP, outR, optE, ha]
   | [a, b] =>
    by_cases ha : numN a < 0
    ·by_cases hb : numN b < 0 <;> simp [mapE, numS_nil, numS_cons, outP, outR, optE, ha, hb, hf]
    ·by_cases hb : numN b < 0 <;> simp [mapE, numS_nil, numS_cons, outP, outR, optE, ha, hb, hf]
   | a :: b :: c :: z =>
    by_cases ha : numN a < 0
    ·by_cases hb : numN b < 0 <;> simp [mapE, numS_nil, numS_cons, outP, outR, optE, ha, hb, hf]
    ·by_cases hb : numN b < 0 <;> simp [mapE, numS_nil, numS_cons, outP, outR, optE, ha, hb, hf]
  ·rw [if_neg hf]
   match t with
   | [] => simp [mapE, outP, outR, optE, hf]
   | [a] => simp [mapE, outP, outR, optE, hf]
   | [a, b] => simp [mapE, outP, outR, optE, hf]
   | a :: b :: c :: z => simp [mapE, outP, outR, optE, hf]
def mapRest (pg ct pr : Int) (w : List Str) (f : Bool) : Ins × LP := mapE pg ct pr (flg flagW 1 0 w).1 (atS wFile ((flg flagW 1 0 w).2, f))
theorem mapS_eq (p : LP) : mapS p = mapRest (mapPg p).1 (numS (mapPg p).2).1 (protS (numS (mapPg p).2).2).1 (protS (numS (mapPg p).2).2).2.1 (protS (numS (mapPg p).2).2).2.2 := rfl
theorem mapRest_bad (pg ct pr : Int) (w : List Str) : outP (mapRest pg ct pr w false) = none := mapTail_bad _ _ _ _ _
theorem mapRest_ok (pg ct pr : Int) (w : List Str) : outP (mapRest pg ct pr w true) = outR (optI ⟨1, pg, ct, 0, 0, -1, pr, 0⟩ w) := mapE_opt _ _ _ _ _
theorem mapPg_cons (a : Str) (r : List Str) (f : Bool) : mapPg (a :: r, f) = if a = wAny then (-1, (r, f)) else numS (a :: r, f) := by
 unfold mapPg
 rw [atS_cons]
 by_cases h : a = wAny
 ·rw [if_pos h, if_pos h]; rfl
 ·rw [if_neg h, if_neg h]; rfl
theorem mapPg_nil (f : Bool) : mapPg ([], f) = (0, ([], false)) := rfl
theorem numN_any : numN wAny = -1 := by decide
theorem rd_wMap (r : List Str) : outP (insW wMap (r, true)) = outR (rinsW (wMap :: r)) := by
 have h1 : insW wMap (r, true) = mapS (r, true) := if_pos rfl
 have ho : opW wMap = (1, 4) := rfl
 rw [h1, mapS_eq]
 clear h1
 unfold rinsW
 simp only [List.getD_cons_zero, ho]
 have two : ∀ pg ct w f, (f = false) -> outP (mapRest pg ct 0 w f) = none := fun pg ct w f h => by subst h; exact mapRest_bad _ _ _ _
 match r with
 | [] =>
  rw [if_pos (by simp [badW]), mapPg_nil]
  exact mapRest_bad _ _ _ _
 | [a] =>
  rw [if_pos (by simp [badW]), mapPg_cons]
  split
  ·exact mapRest_bad _ _ _ _
  ·rw [numS_cons]; split <;> exact mapRest_bad _ _ _ _
 | [a, b] =>
  rw [if_pos (by simp [badW]), mapPg_cons]
  split
  ·simp only [numS_cons]; split <;> exact mapRest_bad _ _ _ _
  ·rw [numS_cons]; split <;> (simp only [numS_cons]; split <;> exact mapRest_bad _ _ _ _)
 | a :: b :: c :: w =>
  have hb : badW 1 4 (((wMap :: a :: b :: c :: w).length : Nat) : Int) = false := by simp [badW]; omega
  rw [hb]
  have e1 : ((wMap :: a :: b :: c :: w).drop 1).take ((4 : Int).toNat - 1) = [a, b, c] := rfl
  have e2 : (wMap :: a :: b :: c :: w).drop (4 : Int).toNat = w := rfl
  rw [e1, e2, mapPg_cons]
  have hbad : ∀ R : Option (List Int × Int), R = none -> outR (if false = true then (zI, false) else finW 1 wMap w R) = none := fun R h => by subst h; rfl
  have hok : ∀ x y z p : Int, outR (if false = true then (zI, false) else finW 1 wMap w (some ([0, x, y, z, 0], p))) = outR (optI ⟨1, x, y, 0, 0, -1, p, 0⟩ w) := fun x y z p => rfl
  by_cases ha : a = wAny
  ·subst ha
   rw [if_pos rfl]
   simp only [numS_cons]
   by_cases hb2 : numN b < 0
   ·rw [if_pos hb2, hbad _ (by simp [rloop, hb2, numN_any])]
    simp only [protS_cons]
    split <;> (try split) <;> exact mapRest_bad _ _ _ _
   ·rw [if_neg hb2]
    simp only [protS_cons]
    by_cases hc1 : c = [114]
    ·have hr : rloop 1 1 [wAny, b, c] [0, 0, 0, 0, 0] 0 = some ([0, -1, numN b, numN c, 0], 1) := by simp [rloop, hb2, numN_any, rprot, hc1]
     rw [if_pos hc1, hr, hok]
     exact mapRest_ok _ _ _ _
    ·rw [if_neg hc1]
     by_cases hc2 : c = [114, 119]
     ·have hr : rloop 1 1 [wAny, b, c] [0, 0, 0, 0, 0] 0 = some ([0, -1, numN b, numN c, 0], 3) := by simp [rloop, hb2, numN_any, rprot, hc2]
      rw [if_pos hc2, hr, hok]
      exact mapRest_ok _ _ _ _
     ·rw [if_neg hc2, hbad _ (by simp [rloop, hb2, numN_any, rprot, hc1, hc2])]
      exact mapRest_bad _ _ _ _
  ·rw [if_neg ha]
   simp only [numS_cons]
   by_cases ha2 : numN a < 0
   ·rw [if_pos ha2, hbad _ (by simp [rloop, ha2, ha])]
    simp only [numS_cons]
    split <;> (simp only [protS_cons]; split <;> (try split) <;> exact mapRest_bad _ _ _ _)
   ·rw [if_neg ha2]
    simp only [numS_cons]
    by_cases hb2 : numN b < 0
    ·rw [if_pos hb2, hbad _ (by simp [rloop, hb2, ha2])]
     simp only [protS_cons]
     split <;> (try split) <;> exact mapRest_bad _ _ _ _
    ·rw [if_neg hb2]
     simp only [protS_cons]
     by_cases hc1 : c = [114]
     ·have hr : rloop 1 1 [a, b, c] [0, 0, 0, 0, 0] 0 = some ([0, numN a, numN b, numN c, 0], 1) := by simp [rloop, hb2, ha2, rprot, hc1]
      rw [if_pos hc1, hr, hok]
      exact mapRest_ok _ _ _ _
     ·rw [if_neg hc1]
      by_cases hc2 : c = [114, 119]
      ·have hr : rloop 1 1 [a, b, c] [0, 0, 0, 0, 0] 0 = some ([0, numN a, numN b, numN c, 0], 3) := by simp [rloop, hb2, ha2, rprot, hc2]
       rw [if_pos hc2, hr, hok]
       exact mapRest_ok _ _ _ _
      ·rw [if_neg hc2, hbad _ (by simp [rloop, hb2, ha2, rprot, hc1, hc2])]
       exact mapRest_bad _ _ _ _
theorem read_eq (w : Str) (r : List Str) : outP (insS (w :: r, true)) = outR (rinsW (w :: r)) := by
 rw [insS_cons]
 by_cases h0 : w = wMap
 ·subst h0; exact rd_wMap r
 by_cases h1 : w = wUnmap
 ·subst h1; exact rd_wUnmap r
 by_cases h2 : w = wProtect
 ·subst h2; exact rd_wProtect r
 by_cases h3 : w = wLock
 ·subst h3; exact rd_wLock r
 by_cases h4 : w = wUnlock
 ·subst h4; exact rd_wUnlock r
 by_cases h5 : w = wLoad
 ·subst h5; exact rd_wLoad r
 by_cases h6 : w = wStore
 ·subst h6; exact rd_wStore r
 by_cases h7 : w = wRead
 ·subst h7; exact rd_wRead r
 by_cases h8 : w = wWrite
 ·subst h8; exact rd_wWrite r
 by_cases h9 : w = wTruncate
 ·subst h9; exact rd_wTruncate r
 by_cases h10 : w = wSync
 ·subst h10; exact rd_wSync r
 by_cases h11 : w = wFork
 ·subst h11; exact rd_wFork r
 by_cases h12 : w = wExit
 ·subst h12; exact rd_wExit r
 exact rd_else w r h0 h1 h2 h3 h4 h5 h6 h7 h8 h9 h10 h11 h12
end Go.AM
namespace Go.AM
open Go Go.Proofs
def UsedOk (x : Ins) : Prop := usedI x = x /\ 1 <= x.op /\ x.op <= 12
theorem mapE_used (pg ct pr fl : Int) (fi : Bool × LP) : UsedOk (mapE pg ct pr fl fi).1 := by
 obtain ⟨b, q⟩ := fi
 cases b
 ·exact ⟨rfl, by show (1 : Int) <= 1; decide, by show (1 : Int) <= 12; decide⟩
 ·exact ⟨rfl, by show (1 : Int) <= 1; decide, by show (1 : Int) <= 12; decide⟩
theorem insW_used (w : Str) (q : LP) (x : Ins) (h : outP (insW w q) = some x) : UsedOk x := by
 have hx : ∀ y : Ins × LP, outP y = some x -> y.1 = x := fun y hy => by
  unfold outP at hy
  split at hy
  ·simpa using hy
  ·cases hy
 by_cases h0 : w = wMap
 ·subst h0
  have e : insW wMap q = mapS q := if_pos rfl
  rw [e] at h
  have := hx _ h
  rw [← this]
  exact mapE_used _ _ _ _ _
 by_cases h1 : w = wUnmap
 ·subst h1
  rw [← hx _ h]
  exact ⟨rfl, by show (1 : Int) <= 2; decide, by show (2 : Int) <= 12; decide⟩
 by_cases h2 : w = wProtect
 ·subst h2
  rw [← hx _ h]
  exact ⟨rfl, by show (1 : Int) <= 3; decide, by show (3 : Int) <= 12; decide⟩
 by_cases h3 : w = wLock
 ·subst h3
  rw [← hx _ h]
  exact ⟨rfl, by show (1 : Int) <= 4; decide, by show (4 : Int) <= 12; decide⟩
 by_cases h4 : w = wUnlock
 ·subst h4
  rw [← hx _ h]
  exact ⟨rfl, by show (1 : Int) <= 4; decide, by show (4 : Int) <= 12; decide⟩
 by_cases h5 : w = wLoad
 ·subst h5
  rw [← hx _ h]
  exact ⟨rfl, by show (1 : Int) <= 5; decide, by show (5 : Int) <= 12; decide⟩
 by_cases h6 : w = wStore
 ·subst h6
  rw [← hx _ h]
  exact ⟨rfl, by show (1 : Int) <= 6; decide, by show (6 : Int) <= 12; decide⟩
 by_cases h7 : w = wRead
 ·subst h7
  rw [← hx _ h]
  exact ⟨rfl, by show (1 : Int) <= 7; decide, by show (7 : Int) <= 12; decide⟩
 by_cases h8 : w = wWrite
 ·subst h8
  rw [← hx _ h]
  exact ⟨rfl, by show (1 : Int) <= 8; decide, by show (8 : Int) <= 12; decide⟩
 by_cases h9 : w = wTruncate
 ·subst h9
  rw [← hx _ h]
  exact ⟨rfl, by show (1 : Int) <= 9; decide, by show (9 : Int) <= 12; decide⟩
 by_cases h10 : w = wSync
 ·subst h10
  rw [← hx _ h]
  exact ⟨rfl, by show (1 : Int) <= 10; decide, by show (10 : Int) <= 12; decide⟩
 by_cases h11 : w = wFork
 ·subst h11
  rw [← hx _ h]
  exact ⟨rfl, by show (1 : Int) <= 11; decide, by show (11 : Int) <= 12; decide⟩
 by_cases h12 : w = wExit
 ·subst h12
  rw [← hx _ h]
  exact ⟨rfl, by show (1 : Int) <= 12; decide, by show (12 : Int) <= 12; decide⟩
 have e : insW w q = (zI, (q.1, false)) := by unfold insW; rw [if_neg h0, if_neg h1, if_neg h2, if_neg h3, if_neg h4, if_neg h5, if_neg h6, if_neg h7, if_neg h8, if_neg h9, if_neg h10, if_neg h11, if_neg h12]
 rw [e] at h
 cases h
theorem chk_used {x : Ins} (h : UsedOk x) : chkE x = 0 ↔ rngI x = true := by
 obtain ⟨h1, h2, h3⟩ := h
 rw [chk_eq]
 unfold rchkE
 have hb : inB x.op 1 12 = true := by simp [inB, h2, h3]
 rw [if_neg (by simp [hb, h1])]
 cases rngI x <;> simp
theorem lineP_eq (s : Str) : lineP s = if skipW (wordsW s) then .skip else match outP (insS (wordsW s, true)) with | none => .bad 4 | some x => if chkE x = 0 then .ins x else .bad 2 := by
 unfold lineP outP
 split
 ·rfl
 ·split <;> simp_all
theorem lineR_eq (s : Str) : lineR s = if skipW (wordsW s) then .skip else match outR (rinsW (wordsW s)) with | none => .bad 4 | some x => if rngI x then .ins x else .bad 2 := by
 unfold lineR outR
 split
 ·rfl
 ·split <;> simp_all
theorem line_eq (s : Str) : lineP s = lineR s := by
 rw [lineP_eq, lineR_eq]
 by_cases hs : skipW (wordsW s) = true
 ·rw [if_pos hs, if_pos hs]
 ·rw [if_neg hs, if_neg hs]
  cases hw : wordsW s with
  | nil => rw [hw] at hs; exact absurd rfl hs
  | cons f r =>
   rw [← read_eq f r]
   cases ho : outP (insS (f :: r, true)) with
   | none => rfl
   | some x =>
    simp only
    have hu := insW_used f (r, true) x (by rw [← ho]; rfl)
    have := chk_used hu
    by_cases hc : chkE x = 0
    ·rw [if_pos hc, if_pos (this.1 hc)]
    ·rw [if_neg hc, if_neg (fun h => hc (this.2 h))]
theorem lineP_nil : lineP [] = .skip := by
 rw [lineP_eq]; rfl
theorem runL_last (f : Str -> LO) (h : f [] = .skip) : ∀ (l : List Str) (i : Nat) (out : List Ins), runL f (l ++ [[]]) i out = runL f l i out
 | [], i, out => by
  rw [List.nil_append, runL_cons, h]; rfl
 | s :: l, i, out => by
  rw [List.cons_append, runL_cons, runL_cons]
  cases f s with
  | skip => exact runL_last f h l _ _
  | bad e => rfl
  | ins x => exact runL_last f h l _ _
theorem runL_lines (f : Str -> LO) (h : f [] = .skip) (s : Str) : runL f (linesW s) 0 [] = runL f (splitC 10 s) 0 [] := by
 rw [linesW_split]
 split
 ·rename_i hl
  have hne := splitC_ne 10 s
  have e : splitC 10 s = (splitC 10 s).dropLast ++ [[]] := by
   rw [List.getLast?_eq_some_getLast hne] at hl
   simp only [Option.some.injEq] at hl
   conv => lhs; rw [← List.dropLast_concat_getLast hne, hl]
  conv => rhs; rw [e]
  rw [runL_last f h]
 ·rfl
theorem parse_eq (s : Str) : parseP s = parseR s := by
 show parseW lineP (splitC 10) s = parseW lineR linesW s
 have e : lineR = lineP := funext fun x => (line_eq x).symm
 unfold parseW
 rw [e]
 split
 ·rfl
 ·rw [runL_lines lineP lineP_nil]
end Go.AM
namespace Go.AM
open Go Go.Proofs
theorem wordsW_spJ : ∀ (ts : List Str) (s : Str), (∀ t ∈ ts, Word t) -> wordsW (spJ s ts) = wordsW s ++ ts
 | [], s, _ => by rw [spJ_nil, List.append_nil]
 | t :: ts, s, h => by
  rw [spJ_cons, wordsW_spJ ts _ fun u hu => h u (by simp [hu])]
  have e : s ++ ([32] ++ t) = s ++ 32 :: t := rfl
  rw [e, wordsW_app, wordsW_word (h t (by simp)), List.append_assoc]
  rfl
theorem spJ_no10 : ∀ (ts : List Str) (s : Str), (∀ b ∈ s, b ≠ 10) -> (∀ t ∈ ts, Word t) -> ∀ b ∈ spJ s ts, b ≠ 10
 | [], s, h, _ => h
 | t :: ts, s, h, ht => by
  rw [spJ_cons]
  refine spJ_no10 ts _ (fun b hb => ?_) fun u hu => ht u (by simp [hu])
  simp only [List.mem_append, List.mem_cons, List.not_mem_nil, or_false] at hb
  rcases hb with hb | rfl | hb
  ·exact h b hb
  ·decide
  ·exact ((ht t (by simp)).2 b hb).2
structure PosI (x : Ins) : Prop where
 ct : 0 <= x.count
 ix : 0 <= x.index
 vl : 0 <= x.value
 pg : x.op ≠ 1 -> 0 <= x.page
 fi : x.op ≠ 1 -> 0 <= x.file
 pr : x.op = 3 -> x.prot = 1 ∨ x.prot = 3
theorem used_eq {x : Ins} (h : chkE x = 0) : usedI x = x /\ rngI x = true /\ inB x.op 1 12 = true := by
 rw [chk_eq] at h
 unfold rchkE at h
 split at h
 ·cases h
 ·rename_i hn
  split at h
  ·rename_i hr
   simp only [not_or, Bool.not_eq_true, Decidable.not_not] at hn
   refine ⟨hn.2, hr, ?_⟩
   cases hb : inB x.op 1 12 with
   | true => rfl
   | false => exact absurd hb (by simpa using hn.1)
  ·cases h
theorem pos_of {x : Ins} (h : chkE x = 0) : PosI x := by
 obtain ⟨hu, hr, hb⟩ := used_eq h
 obtain ⟨o0, o1, p0, p1, c0, c1, i0, i1, v0, v1, f0, f1⟩ := small_of h
 obtain ⟨op, page, count, index, value, file, prot, flags⟩ := x
 simp only at *
 have hc : op = 1 ∨ op = 2 ∨ op = 3 ∨ op = 4 ∨ op = 5 ∨ op = 6 ∨ op = 7 ∨ op = 8 ∨ op = 9 ∨ op = 10 ∨ op = 11 ∨ op = 12 := by omega
 rcases hc with rfl | rfl | rfl | rfl | rfl | rfl | rfl | rfl | rfl | rfl | rfl | rfl
 all_goals
  simp [usedI, zI] at hu
  simp [rngI, memI, inB] at hr
  constructor <;> simp only <;> intros <;> omega
theorem fw_word (k : Nat) (h : k < 4) : Word (fw k) := by
 rcases (by omega : k = 0 ∨ k = 1 ∨ k = 2 ∨ k = 3) with rfl | rfl | rfl | rfl <;> decide
theorem flagK_word (f : Int) : ∀ k, k <= 4 -> ∀ t ∈ flagK f k, Word t
 | 0, _ => fun t h => by cases h
 | k + 1, hk => fun t h => by
  unfold flagK at h
  rcases List.mem_append.1 h with h | h
  ·exact flagK_word f k (by omega) t h
  ·split at h
   ·simp at h; rw [h]; exact fw_word k (by omega)
   ·cases h
theorem protT_word (n : Int) : Word (protT n) := by unfold protT; split <;> decide
theorem tok_words {x : Ins} (h : chkE x = 0) : Word (tokI x).1 /\ ∀ t ∈ (tokI x).2, Word t := by
 obtain ⟨o0, o1, p0, p1, c0, c1, i0, i1, v0, v1, f0, f1⟩ := small_of h
 obtain ⟨ct, ix, vl, pg, fi, pr⟩ := pos_of h
 have nc := (numOk (n := x.count) ct (by omega)).word
 have ni := (numOk (n := x.index) ix (by omega)).word
 have nv := (numOk (n := x.value) vl (by omega)).word
 have np : x.op ≠ 1 -> Word (Lib.itoa x.page) := fun ho => (numOk (pg ho) (by omega)).word
 have nf : x.op ≠ 1 -> Word (Lib.itoa x.file) := fun ho => (numOk (fi ho) (by omega)).word
 unfold tokI
 by_cases h1 : x.op = 1
 ·rw [if_pos h1]
  refine ⟨by show Word wMap; decide, ?_⟩
  have hp : Word (if x.page = -1 then wAny else Lib.itoa x.page) := by
   by_cases hq : x.page = -1
   ·rw [if_pos hq]; decide
   ·rw [if_neg hq]; exact (numOk (by omega) (by omega)).word
  intro t ht
  rcases List.mem_append.1 ht with ht | ht
  ·rcases List.mem_append.1 ht with ht | ht
   ·simp only [List.mem_cons, List.not_mem_nil, or_false] at ht
    rcases ht with rfl | rfl | rfl
    ·exact hp
    ·exact nc
    ·exact protT_word _
   ·rw [flagT_eq] at ht; exact flagK_word _ 4 (Nat.le_refl _) t ht
  ·by_cases hf : x.file = -1
   ·rw [if_pos hf] at ht; cases ht
   ·rw [if_neg hf] at ht
    simp only [List.mem_cons, List.not_mem_nil, or_false] at ht
    rcases ht with rfl | rfl | rfl
    ·decide
    ·exact (numOk (by omega) (by omega)).word
    ·exact ni
 have np := np h1
 have nf := nf h1
 rw [if_neg h1]
 have two : ∀ (w a b : Str), Word w -> Word a -> Word b -> Word (w, [a, b]).1 /\ ∀ t ∈ (w, [a, b]).2, Word t := fun w a b h1 h2 h3 => ⟨h1, fun t ht => by
  simp only [List.mem_cons, List.not_mem_nil, or_false] at ht
  rcases ht with rfl | rfl <;> assumption⟩
 have three : ∀ (w a b c : Str), Word w -> Word a -> Word b -> Word c -> Word (w, [a, b, c]).1 /\ ∀ t ∈ (w, [a, b, c]).2, Word t := fun w a b c h1 h2 h3 h4 => ⟨h1, fun t ht => by
  simp only [List.mem_cons, List.not_mem_nil, or_false] at ht
  rcases ht with rfl | rfl | rfl <;> assumption⟩
 have four : ∀ (w a b c d : Str), Word w -> Word a -> Word b -> Word c -> Word d -> Word (w, [a, b, c, d]).1 /\ ∀ t ∈ (w, [a, b, c, d]).2, Word t := fun w a b c d h1 h2 h3 h4 h5 => ⟨h1, fun t ht => by
  simp only [List.mem_cons, List.not_mem_nil, or_false] at ht
  rcases ht with rfl | rfl | rfl | rfl <;> assumption⟩
 have one : ∀ (w a : Str), Word w -> Word a -> Word (w, [a]).1 /\ ∀ t ∈ (w, [a]).2, Word t := fun w a h1 h2 => ⟨h1, fun t ht => by
  simp only [List.mem_cons, List.not_mem_nil, or_false] at ht
  rcases ht with rfl; assumption⟩
 split
 ·exact two _ _ _ (by decide) np nc
 split
 ·exact three _ _ _ _ (by decide) np nc (protT_word _)
 split
 ·refine two _ _ _ ?_ np nc
  by_cases hv : x.value = 0
  ·rw [if_pos hv]; decide
  ·rw [if_neg hv]; decide
 split
 ·exact two _ _ _ (by decide) np ni
 split
 ·exact three _ _ _ _ (by decide) np ni nv
 split
 ·exact three _ _ _ _ (by decide) nf np ni
 split
 ·exact four _ _ _ _ _ (by decide) nf np ni nv
 split
 ·exact two _ _ _ (by decide) nf nc
 split
 ·exact one _ _ (by decide) nf
 split
 ·exact one _ _ (by decide) nv
 exact ⟨by decide, fun t ht => by cases ht⟩
theorem words_line {x : Ins} (h : chkE x = 0) : wordsW (lineI x) = (tokI x).1 :: (tokI x).2 := by
 obtain ⟨h1, h2⟩ := tok_words h
 unfold lineI
 rw [wordsW_spJ _ _ h2, wordsW_word h1]
 rfl
theorem line_no10 {x : Ins} (h : chkE x = 0) : ∀ b ∈ lineI x, b ≠ 10 := by
 obtain ⟨h1, h2⟩ := tok_words h
 exact spJ_no10 _ _ (fun b hb => (h1.2 b hb).2) h2
theorem numS_itoa {n : Int} (h0 : 0 <= n) (h1 : n <= 512) (r : List Str) : numS (Lib.itoa n :: r, true) = (n, (r, true)) := by
 have h := (numOk h0 (by omega)).val
 rw [numS_cons, h, if_neg (by omega)]
theorem protS_protT {n : Int} (h : n = 1 ∨ n = 3) (r : List Str) : protS (protT n :: r, true) = (n, (r, true)) := by
 rcases h with rfl | rfl <;> rfl
theorem flg_back {f : Int} (h0 : 0 <= f) (h1 : f <= 15) (rest : List Str) (hr : rest = [] ∨ ∃ r, rest = wFile :: r) : flg flagW 1 0 (flagT f ++ rest) = (f, rest) := by
 have hc : f = 0 ∨ f = 1 ∨ f = 2 ∨ f = 3 ∨ f = 4 ∨ f = 5 ∨ f = 6 ∨ f = 7 ∨ f = 8 ∨ f = 9 ∨ f = 10 ∨ f = 11 ∨ f = 12 ∨ f = 13 ∨ f = 14 ∨ f = 15 := by omega
 rcases hr with rfl | ⟨r, rfl⟩
 ·rcases hc with rfl | rfl | rfl | rfl | rfl | rfl | rfl | rfl | rfl | rfl | rfl | rfl | rfl | rfl | rfl | rfl <;> rfl
 ·rcases hc with rfl | rfl | rfl | rfl | rfl | rfl | rfl | rfl | rfl | rfl | rfl | rfl | rfl | rfl | rfl | rfl <;> rfl
theorem tok_read {x : Ins} (h : chkE x = 0) : insS ((tokI x).1 :: (tokI x).2, true) = (x, ([], true)) := by
 obtain ⟨o0, o1, p0, p1, c0, c1, i0, i1, v0, v1, f0, f1⟩ := small_of h
 obtain ⟨ct, ix, vl, pg, fi, pr⟩ := pos_of h
 obtain ⟨hu, -, -⟩ := used_eq h
 have nc := numS_itoa (n := x.count) ct c1
 have ni := numS_itoa (n := x.index) ix i1
 have nv := numS_itoa (n := x.value) vl v1
 have np : x.op ≠ 1 -> ∀ r, numS (Lib.itoa x.page :: r, true) = (x.page, (r, true)) := fun ho => numS_itoa (pg ho) p1
 have nf : x.op ≠ 1 -> ∀ r, numS (Lib.itoa x.file :: r, true) = (x.file, (r, true)) := fun ho => numS_itoa (fi ho) f1
 rw [insS_cons]
 by_cases h1 : x.op = 1
 ·obtain ⟨pg0, pg1, ct0, ct1, fl0, fl1, fi0, fi1, ix0, ix1, hpr⟩ := mapOk_of h h1
  have hx : x = ⟨1, x.page, x.count, x.index, 0, x.file, x.prot, x.flags⟩ := by
   conv => lhs; rw [← hu]
   unfold usedI
   rw [if_pos h1, h1]
   rfl
  have ht : tokI x = (wMap, [if x.page = -1 then wAny else Lib.itoa x.page, Lib.itoa x.count, protT x.prot] ++ flagT x.flags ++ (if x.file = -1 then [] else [wFile, Lib.itoa x.file, Lib.itoa x.index])) := by unfold tokI; rw [if_pos h1]
  rw [ht]
  have e : ∀ q : LP, insW wMap q = mapS q := fun q => if_pos rfl
  simp only [List.cons_append, List.nil_append]
  rw [e, mapS_eq, mapPg_cons]
  have hpg : (if (if x.page = -1 then wAny else Lib.itoa x.page) = wAny then ((-1 : Int), (Lib.itoa x.count :: protT x.prot :: (flagT x.flags ++ (if x.file = -1 then [] else [wFile, Lib.itoa x.file, Lib.itoa x.index])), true)) else numS ((if x.page = -1 then wAny else Lib.itoa x.page) :: Lib.itoa x.count :: protT x.prot :: (flagT x.flags ++ (if x.file = -1 then [] else [wFile, Lib.itoa x.file, Lib.itoa x.index])), true)) =
    (x.page, (Lib.itoa x.count :: protT x.prot :: (flagT x.flags ++ (if x.file = -1 then [] else [wFile, Lib.itoa x.file, Lib.itoa x.index])), true)) := by
   by_cases hq : x.page = -1
   ·rw [if_pos hq, if_pos rfl, hq]
   ·have hn := numOk (n := x.page) (by omega) (by omega)
    have hne : ¬ Lib.itoa x.page = wAny := fun e => by
     have := hn.dig 97 (by rw [e]; decide)
     exact absurd this.2 (by decide)
    rw [if_neg hq, if_neg hne, numS_itoa (by omega) p1]
  rw [hpg]
  simp only [nc, protS_protT hpr]
  unfold mapRest
  have hr : (if x.file = -1 then [] else [wFile, Lib.itoa x.file, Lib.itoa x.index]) = [] ∨ ∃ r, (if x.file = -1 then [] else [wFile, Lib.itoa x.file, Lib.itoa x.index]) = wFile :: r := by
   by_cases hq : x.file = -1
   ·rw [if_pos hq]; exact .inl rfl
   ·rw [if_neg hq]; exact .inr ⟨_, rfl⟩
  rw [flg_back fl0 fl1 _ hr]
  simp only
  by_cases hq : x.file = -1
  ·have hi : x.index = 0 := by
    rw [chk_eq] at h
    unfold rchkE at h
    split at h
    ·cases h
    ·split at h
     ·rename_i hr
      simp only [rngI, memI, h1] at hr
      simp [inB] at hr
      omega
     ·cases h
   rw [if_pos hq]
   conv => rhs; rw [hx, hq, hi]
   rfl
  ·rw [if_neg hq, atS_cons, if_pos rfl]
   unfold mapE
   simp only [if_true]
   rw [numS_itoa (by omega) f1]
   simp only
   rw [ni]
   conv => rhs; rw [hx]
 have np := np h1
 have nf := nf h1
 by_cases h2 : x.op = 2
 ·have hx : x = ⟨2, x.page, x.count, 0, 0, 0, 0, 0⟩ := by
   conv => lhs; rw [← hu]
   unfold usedI
   rw [if_neg h1, if_pos h2, h2]
   rfl
  have ht : tokI x = (wUnmap, [Lib.itoa x.page, Lib.itoa x.count]) := by unfold tokI; rw [if_neg h1, if_pos h2]
  rw [ht]
  simp only
  have e : insW wUnmap ([Lib.itoa x.page, Lib.itoa x.count], true) = ((⟨2, (numS ([Lib.itoa x.page, Lib.itoa x.count], true)).1, (numS (numS ([Lib.itoa x.page, Lib.itoa x.count], true)).2).1, 0, 0, 0, 0, 0⟩ : Ins), (numS (numS ([Lib.itoa x.page, Lib.itoa x.count], true)).2).2) := by unfold insW; rw [if_neg (by decide), if_pos rfl]
  rw [e]
  simp only [np, nc]
  conv => rhs; rw [hx]
 by_cases h3 : x.op = 3
 ·have hx : x = ⟨3, x.page, x.count, 0, 0, 0, x.prot, 0⟩ := by
   conv => lhs; rw [← hu]
   unfold usedI
   rw [if_neg h1, if_neg h2, if_pos h3, h3]
   rfl
  have ht : tokI x = (wProtect, [Lib.itoa x.page, Lib.itoa x.count, protT x.prot]) := by unfold tokI; rw [if_neg h1, if_neg h2, if_pos h3]
  rw [ht]
  simp only
  have e : insW wProtect ([Lib.itoa x.page, Lib.itoa x.count, protT x.prot], true) = ((⟨3, (numS ([Lib.itoa x.page, Lib.itoa x.count, protT x.prot], true)).1, (numS (numS ([Lib.itoa x.page, Lib.itoa x.count, protT x.prot], true)).2).1, 0, 0, 0, (protS (numS (numS ([Lib.itoa x.page, Lib.itoa x.count, protT x.prot], true)).2).2).1, 0⟩ : Ins), (protS (numS (numS ([Lib.itoa x.page, Lib.itoa x.count, protT x.prot], true)).2).2).2) := by unfold insW; rw [if_neg (by decide), if_neg (by decide), if_pos rfl]
  rw [e]
  simp only [np, nc, protS_protT (pr h3)]
  conv => rhs; rw [hx]
 by_cases h4 : x.op = 4
 ·have hv := lock_val h h4
  have hx : x = ⟨4, x.page, x.count, 0, x.value, 0, 0, 0⟩ := by
   conv => lhs; rw [← hu]
   unfold usedI
   rw [if_neg h1, if_neg h2, if_neg h3, if_pos h4, h4]
   rfl
  have ht : tokI x = (if x.value = 0 then wUnlock else wLock, [Lib.itoa x.page, Lib.itoa x.count]) := by unfold tokI; rw [if_neg h1, if_neg h2, if_neg h3, if_pos h4]
  rw [ht]
  simp only
  by_cases hq : x.value = 0
  ·rw [if_pos hq]
   have e : insW wUnlock ([Lib.itoa x.page, Lib.itoa x.count], true) = ((⟨4, (numS ([Lib.itoa x.page, Lib.itoa x.count], true)).1, (numS (numS ([Lib.itoa x.page, Lib.itoa x.count], true)).2).1, 0, 0, 0, 0, 0⟩ : Ins), (numS (numS ([Lib.itoa x.page, Lib.itoa x.count], true)).2).2) := rfl
   rw [e]
   simp only [np, nc]
   conv => rhs; rw [hx, hq]
  ·rw [if_neg hq]
   have hq1 : x.value = 1 := by omega
   have e : insW wLock ([Lib.itoa x.page, Lib.itoa x.count], true) = ((⟨4, (numS ([Lib.itoa x.page, Lib.itoa x.count], true)).1, (numS (numS ([Lib.itoa x.page, Lib.itoa x.count], true)).2).1, 0, 1, 0, 0, 0⟩ : Ins), (numS (numS ([Lib.itoa x.page, Lib.itoa x.count], true)).2).2) := rfl
   rw [e]
   simp only [np, nc]
   conv => rhs; rw [hx, hq1]
 by_cases h5 : x.op = 5
 ·have hx : x = ⟨5, x.page, 0, x.index, 0, 0, 0, 0⟩ := by
   conv => lhs; rw [← hu]
   unfold usedI
   rw [if_neg h1, if_neg h2, if_neg h3, if_neg h4, if_pos h5, h5]
   rfl
  have ht : tokI x = (wLoad, [Lib.itoa x.page, Lib.itoa x.index]) := by unfold tokI; rw [if_neg h1, if_neg h2, if_neg h3, if_neg h4, if_pos h5]
  rw [ht]
  simp only
  have e : insW wLoad ([Lib.itoa x.page, Lib.itoa x.index], true) = ((⟨5, (numS ([Lib.itoa x.page, Lib.itoa x.index], true)).1, 0, (numS (numS ([Lib.itoa x.page, Lib.itoa x.index], true)).2).1, 0, 0, 0, 0⟩ : Ins), (numS (numS ([Lib.itoa x.page, Lib.itoa x.index], true)).2).2) := by unfold insW; rw [if_neg (by decide), if_neg (by decide), if_neg (by decide), if_neg (by decide), if_neg (by decide), if_pos rfl]
  rw [e]
  simp only [np, ni]
  conv => rhs; rw [hx]
 by_cases h6 : x.op = 6
 ·have hx : x = ⟨6, x.page, 0, x.index, x.value, 0, 0, 0⟩ := by
   conv => lhs; rw [← hu]
   unfold usedI
   rw [if_neg h1, if_neg h2, if_neg h3, if_neg h4, if_neg h5, if_pos h6, h6]
   rfl
  have ht : tokI x = (wStore, [Lib.itoa x.page, Lib.itoa x.index, Lib.itoa x.value]) := by unfold tokI; rw [if_neg h1, if_neg h2, if_neg h3, if_neg h4, if_neg h5, if_pos h6]
  rw [ht]
  simp only
  have e : insW wStore ([Lib.itoa x.page, Lib.itoa x.index, Lib.itoa x.value], true) = ((⟨6, (numS ([Lib.itoa x.page, Lib.itoa x.index, Lib.itoa x.value], true)).1, 0, (numS (numS ([Lib.itoa x.page, Lib.itoa x.index, Lib.itoa x.value], true)).2).1, (numS (numS (numS ([Lib.itoa x.page, Lib.itoa x.index, Lib.itoa x.value], true)).2).2).1, 0, 0, 0⟩ : Ins), (numS (numS (numS ([Lib.itoa x.page, Lib.itoa x.index, Lib.itoa x.value], true)).2).2).2) := by unfold insW; rw [if_neg (by decide), if_neg (by decide), if_neg (by decide), if_neg (by decide), if_neg (by decide), if_neg (by decide), if_pos rfl]
  rw [e]
  simp only [np, ni, nv]
  conv => rhs; rw [hx]
 by_cases h7 : x.op = 7
 ·have hx : x = ⟨7, x.page, 0, x.index, 0, x.file, 0, 0⟩ := by
   conv => lhs; rw [← hu]
   unfold usedI
   rw [if_neg h1, if_neg h2, if_neg h3, if_neg h4, if_neg h5, if_neg h6, if_pos h7, h7]
   rfl
  have ht : tokI x = (wRead, [Lib.itoa x.file, Lib.itoa x.page, Lib.itoa x.index]) := by unfold tokI; rw [if_neg h1, if_neg h2, if_neg h3, if_neg h4, if_neg h5, if_neg h6, if_pos h7]
  rw [ht]
  simp only
  have e : insW wRead ([Lib.itoa x.file, Lib.itoa x.page, Lib.itoa x.index], true) = ((⟨7, (numS (numS ([Lib.itoa x.file, Lib.itoa x.page, Lib.itoa x.index], true)).2).1, 0, (numS (numS (numS ([Lib.itoa x.file, Lib.itoa x.page, Lib.itoa x.index], true)).2).2).1, 0, (numS ([Lib.itoa x.file, Lib.itoa x.page, Lib.itoa x.index], true)).1, 0, 0⟩ : Ins), (numS (numS (numS ([Lib.itoa x.file, Lib.itoa x.page, Lib.itoa x.index], true)).2).2).2) := by unfold insW; rw [if_neg (by decide), if_neg (by decide), if_neg (by decide), if_neg (by decide), if_neg (by decide), if_neg (by decide), if_neg (by decide), if_pos rfl]
  rw [e]
  simp only [nf, np, ni]
  conv => rhs; rw [hx]
 by_cases h8 : x.op = 8
 ·have hx : x = ⟨8, x.page, 0, x.index, x.value, x.file, 0, 0⟩ := by
   conv => lhs; rw [← hu]
   unfold usedI
   rw [if_neg h1, if_neg h2, if_neg h3, if_neg h4, if_neg h5, if_neg h6, if_neg h7, if_pos h8, h8]
   rfl
  have ht : tokI x = (wWrite, [Lib.itoa x.file, Lib.itoa x.page, Lib.itoa x.index, Lib.itoa x.value]) := by unfold tokI; rw [if_neg h1, if_neg h2, if_neg h3, if_neg h4, if_neg h5, if_neg h6, if_neg h7, if_pos h8]
  rw [ht]
  simp only
  have e : insW wWrite ([Lib.itoa x.file, Lib.itoa x.page, Lib.itoa x.index, Lib.itoa x.value], true) = ((⟨8, (numS (numS ([Lib.itoa x.file, Lib.itoa x.page, Lib.itoa x.index, Lib.itoa x.value], true)).2).1, 0, (numS (numS (numS ([Lib.itoa x.file, Lib.itoa x.page, Lib.itoa x.index, Lib.itoa x.value], true)).2).2).1, (numS (numS (numS (numS ([Lib.itoa x.file, Lib.itoa x.page, Lib.itoa x.index, Lib.itoa x.value], true)).2).2).2).1, (numS ([Lib.itoa x.file, Lib.itoa x.page, Lib.itoa x.index, Lib.itoa x.value], true)).1, 0, 0⟩ : Ins), (numS (numS (numS (numS ([Lib.itoa x.file, Lib.itoa x.page, Lib.itoa x.index, Lib.itoa x.value], true)).2).2).2).2) := by unfold insW; rw [if_neg (by decide), if_neg (by decide), if_neg (by decide), if_neg (by decide), if_neg (by decide), if_neg (by decide), if_neg (by decide), if_neg (by decide), if_pos rfl]
  rw [e]
  simp only [nf, np, ni, nv]
  conv => rhs; rw [hx]
 by_cases h9 : x.op = 9
 ·have hx : x = ⟨9, 0, x.count, 0, 0, x.file, 0, 0⟩ := by
   conv => lhs; rw [← hu]
   unfold usedI
   rw [if_neg h1, if_neg h2, if_neg h3, if_neg h4, if_neg h5, if_neg h6, if_neg h7, if_neg h8, if_pos h9, h9]
   rfl
  have ht : tokI x = (wTruncate, [Lib.itoa x.file, Lib.itoa x.count]) := by unfold tokI; rw [if_neg h1, if_neg h2, if_neg h3, if_neg h4, if_neg h5, if_neg h6, if_neg h7, if_neg h8, if_pos h9]
  rw [ht]
  simp only
  have e : insW wTruncate ([Lib.itoa x.file, Lib.itoa x.count], true) = ((⟨9, 0, (numS (numS ([Lib.itoa x.file, Lib.itoa x.count], true)).2).1, 0, 0, (numS ([Lib.itoa x.file, Lib.itoa x.count], true)).1, 0, 0⟩ : Ins), (numS (numS ([Lib.itoa x.file, Lib.itoa x.count], true)).2).2) := by unfold insW; rw [if_neg (by decide), if_neg (by decide), if_neg (by decide), if_neg (by decide), if_neg (by decide), if_neg (by decide), if_neg (by decide), if_neg (by decide), if_neg (by decide), if_pos rfl]
  rw [e]
  simp only [nf, nc]
  conv => rhs; rw [hx]
 by_cases h10 : x.op = 10
 ·have hx : x = ⟨10, 0, 0, 0, 0, x.file, 0, 0⟩ := by
   conv => lhs; rw [← hu]
   unfold usedI
   rw [if_neg h1, if_neg h2, if_neg h3, if_neg h4, if_neg h5, if_neg h6, if_neg h7, if_neg h8, if_neg h9, if_pos h10, h10]
   rfl
  have ht : tokI x = (wSync, [Lib.itoa x.file]) := by unfold tokI; rw [if_neg h1, if_neg h2, if_neg h3, if_neg h4, if_neg h5, if_neg h6, if_neg h7, if_neg h8, if_neg h9, if_pos h10]
  rw [ht]
  simp only
  have e : insW wSync ([Lib.itoa x.file], true) = ((⟨10, 0, 0, 0, 0, (numS ([Lib.itoa x.file], true)).1, 0, 0⟩ : Ins), (numS ([Lib.itoa x.file], true)).2) := by unfold insW; rw [if_neg (by decide), if_neg (by decide), if_neg (by decide), if_neg (by decide), if_neg (by decide), if_neg (by decide), if_neg (by decide), if_neg (by decide), if_neg (by decide), if_neg (by decide), if_pos rfl]
  rw [e]
  simp only [nf]
  conv => rhs; rw [hx]
 by_cases h11 : x.op = 11
 ·have hx : x = ⟨11, 0, 0, 0, x.value, 0, 0, 0⟩ := by
   conv => lhs; rw [← hu]
   unfold usedI
   rw [if_neg h1, if_neg h2, if_neg h3, if_neg h4, if_neg h5, if_neg h6, if_neg h7, if_neg h8, if_neg h9, if_neg h10, if_pos h11, h11]
   rfl
  have ht : tokI x = (wFork, [Lib.itoa x.value]) := by unfold tokI; rw [if_neg h1, if_neg h2, if_neg h3, if_neg h4, if_neg h5, if_neg h6, if_neg h7, if_neg h8, if_neg h9, if_neg h10, if_pos h11]
  rw [ht]
  simp only
  have e : insW wFork ([Lib.itoa x.value], true) = ((⟨11, 0, 0, 0, (numS ([Lib.itoa x.value], true)).1, 0, 0, 0⟩ : Ins), (numS ([Lib.itoa x.value], true)).2) := by unfold insW; rw [if_neg (by decide), if_neg (by decide), if_neg (by decide), if_neg (by decide), if_neg (by decide), if_neg (by decide), if_neg (by decide), if_neg (by decide), if_neg (by decide), if_neg (by decide), if_neg (by decide), if_pos rfl]
  rw [e]
  simp only [nv]
  conv => rhs; rw [hx]
 have hx : x = ⟨12, 0, 0, 0, 0, 0, 0, 0⟩ := by
  have ho : x.op = 12 := by omega
  conv => lhs; rw [← hu]
  unfold usedI
  rw [if_neg h1, if_neg h2, if_neg h3, if_neg h4, if_neg h5, if_neg h6, if_neg h7, if_neg h8, if_neg h9, if_neg h10, if_neg h11, ho]
  rfl
 rw [hx]
 rfl
theorem lineP_back {x : Ins} (h : chkE x = 0) : lineP (lineI x) = .ins x := by
 obtain ⟨h1, h2⟩ := tok_words h
 rw [lineP_eq, words_line h]
 have hsk : skipW ((tokI x).1 :: (tokI x).2) = false := by
  unfold skipW
  simp only [reduceCtorEq, decide_false, Bool.false_or, List.getD_cons_zero, decide_eq_false_iff_not]
  unfold tokI
  repeat' refine ite_P (P := fun q : Str × List Str => ¬ q.1.getD 0 0 = 35) ?_ ?_
  all_goals first | exact (by decide : ¬ wMap.getD 0 0 = 35) | exact (by decide : ¬ wUnmap.getD 0 0 = 35) | exact (by decide : ¬ wProtect.getD 0 0 = 35) | exact (by decide : ¬ wLoad.getD 0 0 = 35) | exact (by decide : ¬ wStore.getD 0 0 = 35) | exact (by decide : ¬ wRead.getD 0 0 = 35) | exact (by decide : ¬ wWrite.getD 0 0 = 35) | exact (by decide : ¬ wTruncate.getD 0 0 = 35) | exact (by decide : ¬ wSync.getD 0 0 = 35) | exact (by decide : ¬ wFork.getD 0 0 = 35) | exact (by decide : ¬ wExit.getD 0 0 = 35) | skip
  show ¬ (if x.value = 0 then wUnlock else wLock).getD 0 0 = 35
  by_cases hv : x.value = 0
  ·rw [if_pos hv]; decide
  ·rw [if_neg hv]; decide
 rw [hsk, tok_read h]
 simp [outP, h]
theorem split_text : ∀ c : List Ins, (∀ x ∈ c, chkE x = 0) -> splitC 10 (c.flatMap fun x => lineI x ++ [10]) = c.map lineI ++ [[]]
 | [], _ => rfl
 | x :: c, h => by
  rw [List.flatMap_cons, List.append_assoc, List.singleton_append, splitC_app, splitC_none' _ (line_no10 (h x (by simp))), split_text c fun y hy => h y (by simp [hy])]
  rfl
theorem runL_text : ∀ (c : List Ins) (i : Nat) (out : List Ins), (∀ x ∈ c, chkE x = 0) -> runL lineP (c.map lineI) i out = if 48 < (out ++ c).length then ([], 0, 9) else (out ++ c, 0, 0)
 | [], i, out, _ => by simp [runL]
 | x :: c, i, out, h => by
  rw [List.map_cons, runL_cons, lineP_back (h x (by simp))]
  simp only
  rw [runL_text c _ _ fun y hy => h y (by simp [hy]), List.append_assoc]
  rfl
end Go.AM
namespace Go.AM
open Go Go.Proofs
def textI (c : List Ins) : Str := c.flatMap fun x => lineI x ++ [10]
theorem protT_len (n : Int) : (protT n).length <= 6 := by unfold protT; split <;> decide
theorem lineI_len {x : Ins} (h : chkE x = 0) : (lineI x).length <= 73 := by
 obtain ⟨o0, o1, p0, p1, c0, c1, i0, i1, v0, v1, f0, f1⟩ := small_of h
 obtain ⟨ct, ix, vl, pg, fi, pr⟩ := pos_of h
 have nc : (Lib.itoa x.count).length <= 6 := by have := (numOk (n := x.count) ct (by omega)).l3; omega
 have ni : (Lib.itoa x.index).length <= 6 := by have := (numOk (n := x.index) ix (by omega)).l3; omega
 have nv : (Lib.itoa x.value).length <= 6 := by have := (numOk (n := x.value) vl (by omega)).l3; omega
 have np : x.op ≠ 1 -> (Lib.itoa x.page).length <= 6 := fun ho => by have := (numOk (n := x.page) (pg ho) (by omega)).l3; omega
 have nf : x.op ≠ 1 -> (Lib.itoa x.file).length <= 6 := fun ho => by have := (numOk (n := x.file) (fi ho) (by omega)).l3; omega
 have npr := protT_len x.prot
 have key : ∀ (w : Str) (ts : List Str), (w.length <= 3 /\ ts.length <= 10) ∨ (w.length <= 8 /\ ts.length <= 4) -> (∀ t ∈ ts, t.length <= 6) -> (spJ w ts).length <= 73 := fun w ts hw hm => by
  have h1 := spJ_len ts w 6 hm
  rcases hw with ⟨a, b⟩ | ⟨a, b⟩
  ·have : (6 + 1) * ts.length <= 7 * 10 := Nat.mul_le_mul_left 7 b
   omega
  ·have : (6 + 1) * ts.length <= 7 * 4 := Nat.mul_le_mul_left 7 b
   omega
 unfold lineI tokI
 by_cases h1 : x.op = 1
 ·rw [if_pos h1]
  obtain ⟨g1, g2⟩ := flagK_mem x.flags 4 (Nat.le_refl _)
  have hp : (if x.page = -1 then wAny else Lib.itoa x.page).length <= 6 := by
   by_cases hq : x.page = -1
   ·rw [if_pos hq]; decide
   ·rw [if_neg hq]; have := (numOk (n := x.page) (by omega) (by omega)).l3; omega
  refine key _ _ (.inl ⟨by show wMap.length <= 3; decide, ?_⟩) fun t ht => ?_
  ·rw [flagT_eq]
   simp only [List.length_append, List.length_cons, List.length_nil]
   split <;> simp only [List.length_cons, List.length_nil] <;> omega
  ·rcases List.mem_append.1 ht with ht | ht
   ·rcases List.mem_append.1 ht with ht | ht
    ·simp only [List.mem_cons, List.not_mem_nil, or_false] at ht
     rcases ht with rfl | rfl | rfl
     ·exact hp
     ·exact nc
     ·exact npr
    ·rw [flagT_eq] at ht; exact g2 t ht
   ·by_cases hf : x.file = -1
    ·rw [if_pos hf] at ht; cases ht
    ·rw [if_neg hf] at ht
     simp only [List.mem_cons, List.not_mem_nil, or_false] at ht
     rcases ht with rfl | rfl | rfl
     ·decide
     ·have := (numOk (n := x.file) (by omega) (by omega)).l3; omega
     ·exact ni
 have np := np h1
 have nf := nf h1
 rw [if_neg h1]
 have two : ∀ (w a b : Str), w.length <= 8 -> a.length <= 6 -> b.length <= 6 -> (spJ (w, [a, b]).1 (w, [a, b]).2).length <= 73 := fun w a b h1 h2 h3 => key w [a, b] (.inr ⟨h1, by simp⟩) fun t ht => by
  simp only [List.mem_cons, List.not_mem_nil, or_false] at ht
  rcases ht with rfl | rfl <;> assumption
 have three : ∀ (w a b c : Str), w.length <= 8 -> a.length <= 6 -> b.length <= 6 -> c.length <= 6 -> (spJ (w, [a, b, c]).1 (w, [a, b, c]).2).length <= 73 := fun w a b c h1 h2 h3 h4 => key w [a, b, c] (.inr ⟨h1, by simp⟩) fun t ht => by
  simp only [List.mem_cons, List.not_mem_nil, or_false] at ht
  rcases ht with rfl | rfl | rfl <;> assumption
 have four : ∀ (w a b c d : Str), w.length <= 8 -> a.length <= 6 -> b.length <= 6 -> c.length <= 6 -> d.length <= 6 -> (spJ (w, [a, b, c, d]).1 (w, [a, b, c, d]).2).length <= 73 := fun w a b c d h1 h2 h3 h4 h5 => key w [a, b, c, d] (.inr ⟨h1, by simp⟩) fun t ht => by
  simp only [List.mem_cons, List.not_mem_nil, or_false] at ht
  rcases ht with rfl | rfl | rfl | rfl <;> assumption
 have one : ∀ (w a : Str), w.length <= 8 -> a.length <= 6 -> (spJ (w, [a]).1 (w, [a]).2).length <= 73 := fun w a h1 h2 => key w [a] (.inr ⟨h1, by simp⟩) fun t ht => by
  simp only [List.mem_cons, List.not_mem_nil, or_false] at ht
  rcases ht with rfl; assumption
 split
 ·exact two _ _ _ (by decide) np nc
 split
 ·exact three _ _ _ _ (by decide) np nc npr
 split
 ·refine two _ _ _ ?_ np nc
  by_cases hv : x.value = 0
  ·rw [if_pos hv]; decide
  ·rw [if_neg hv]; decide
 split
 ·exact two _ _ _ (by decide) np ni
 split
 ·exact three _ _ _ _ (by decide) np ni nv
 split
 ·exact three _ _ _ _ (by decide) nf np ni
 split
 ·exact four _ _ _ _ _ (by decide) nf np ni nv
 split
 ·exact two _ _ _ (by decide) nf nc
 split
 ·exact one _ _ (by decide) nf
 split
 ·exact one _ _ (by decide) nv
 decide
theorem chkA_mem : ∀ c : List Ins, chkA c = 0 -> ∀ x ∈ c, chkE x = 0
 | [], _, _, h => by cases h
 | y :: r, hc, x, h => by
  unfold chkA at hc
  by_cases hy : chkE y = 0
  ·rw [if_pos hy] at hc
   rcases List.mem_cons.1 h with rfl | h
   ·exact hy
   ·exact chkA_mem r hc x h
  ·rw [if_neg hy] at hc
   exact absurd hc hy
theorem chkA_all : ∀ c : List Ins, (∀ x ∈ c, chkE x = 0) -> chkA c = 0
 | [], _ => rfl
 | y :: r, h => by
  unfold chkA
  rw [if_pos (h y (by simp))]
  exact chkA_all r fun x hx => h x (by simp [hx])
theorem ChkP_ok {c : List Ins} : ChkP c = 0 ↔ c.length <= 48 /\ ∀ x ∈ c, chkE x = 0 := by
 unfold ChkP
 constructor
 ·intro h
  split at h
  ·cases h
  ·exact ⟨by omega, chkA_mem c h⟩
 ·rintro ⟨h1, h2⟩
  rw [if_neg (by omega)]
  exact chkA_all c h2
theorem textI_len : ∀ c : List Ins, (∀ x ∈ c, chkE x = 0) -> (textI c).length <= 74 * c.length
 | [], _ => Nat.le_refl _
 | x :: c, h => by
  have h1 := lineI_len (h x (by simp))
  have h2 := textI_len c fun y hy => h y (by simp [hy])
  show ((lineI x ++ [10]) ++ textI c).length <= _
  simp only [List.length_append, List.length_cons, List.length_nil]
  omega
theorem parse_text {c : List Ins} (h : ChkP c = 0) : parseP (textI c) = (c, 0, 0) := by
 obtain ⟨h1, h2⟩ := ChkP_ok.1 h
 have hl := textI_len c h2
 show parseW lineP (splitC 10) (textI c) = _
 unfold parseW
 rw [if_neg (by omega)]
 unfold textI
 rw [split_text c h2, runL_last lineP lineP_nil, runL_text c _ _ h2]
 simp only [List.nil_append]
 rw [if_neg (by omega)]
theorem lineP_ins {s : Str} {x : Ins} (h : lineP s = .ins x) : chkE x = 0 := by
 rw [lineP_eq] at h
 split at h
 ·cases h
 ·split at h
  ·cases h
  ·split at h
   ·rename_i hc
    cases h
    exact hc
   ·cases h
theorem runL_valid : ∀ (l : List Str) (i : Nat) (out : List Ins), (∀ x ∈ out, chkE x = 0) -> ∀ q, runL lineP l i out = q -> (q.2.2 = 0 -> ChkP q.1 = 0) /\ (q.2.2 ≠ 0 -> q.1 = []) /\ (q.2.2 = 0 -> q.2.1 = 0)
 | [], i, out, h, q, hq => by
  simp only [runL] at hq
  split at hq
  ·subst hq; exact ⟨fun h => absurd (show (9 : Int) = 0 from h) (by decide), fun _ => rfl, fun h => absurd (show (9 : Int) = 0 from h) (by decide)⟩
  ·subst hq; exact ⟨fun _ => ChkP_ok.2 ⟨by simp only; omega, h⟩, fun h => absurd rfl h, fun _ => rfl⟩
 | s :: l, i, out, h, q, hq => by
  rw [runL_cons] at hq
  cases hs : lineP s with
  | skip => rw [hs] at hq; exact runL_valid l _ _ h q hq
  | bad e =>
   rw [hs] at hq
   simp only at hq
   subst hq
   have he : e ≠ 0 := by
    rw [lineP_eq] at hs
    split at hs
    ·cases hs
    ·split at hs
     ·cases hs; decide
     ·split at hs
      ·cases hs
      ·cases hs; decide
   exact ⟨fun h => absurd h he, fun _ => rfl, fun h => absurd h he⟩
  | ins x =>
   rw [hs] at hq
   refine runL_valid l _ _ (fun y hy => ?_) q hq
   rcases List.mem_append.1 hy with hy | hy
   ·exact h y hy
   ·simp at hy; rw [hy]; exact lineP_ins hs
theorem parse_valid (s : Str) : ((parseP s).2.2 = 0 -> ChkP (parseP s).1 = 0) /\ ((parseP s).2.2 ≠ 0 -> (parseP s).1 = []) /\ ((parseP s).2.2 = 0 -> (parseP s).2.1 = 0) := by
 show (_ -> ChkP (parseW lineP (splitC 10) s).1 = 0) /\ _
 by_cases hl : 4000 < s.length
 ·have e : parseP s = ([], 0, 9) := if_pos hl
  rw [e]
  exact ⟨fun h => absurd (show (9 : Int) = 0 from h) (by decide), fun _ => rfl, fun h => absurd (show (9 : Int) = 0 from h) (by decide)⟩
 ·have e : parseP s = runL lineP (splitC 10 s) 0 [] := if_neg hl
  rw [e]
  have := runL_valid (splitC 10 s) 0 [] (fun x hx => by cases hx) _ rfl
  have e2 : parseW lineP (splitC 10) s = runL lineP (splitC 10 s) 0 [] := if_neg hl
  rw [e2]
  exact this
end Go.AM

