/-
  CONTRACTS: Union, Minus, Meet of nets; plain laws of them.
-/
import Derived.Test.YtlkhpgocbojdgaaGreatDoorNtMrg
namespace Go.Proofs.YtlkhpgocbojdgaaGreatDoor.Ai
open Go
set_option linter.unusedSimpArgs false
set_option linter.unusedVariables false

/-! ### Degrees -/
def B3.ends (b : B3) (k : KI) : Int := (if k = b.lo then 1 else 0) + (if k = b.up then 1 else 0)
def cntE : List B3 → KI → Int
  | [], _ => 0
  | b :: l, k => b.ends k + cntE l k
theorem getK_degM : ∀ (l : List B3) (m : DM) (k : KI), getK (degM m l) k = getK m k + cntE l k
  | [], m, k => by simp [degM, cntE]
  | b :: l, m, k => by
    simp only [degM, cntE, getK_degM l, getK_bump, B3.ends]
    omega
theorem cntE_append (a b : List B3) (k : KI) : cntE (a ++ b) k = cntE a k + cntE b k := by
  induction a with
  | nil => simp [cntE]
  | cons x a ih => simp only [List.cons_append, cntE, ih]; omega
theorem merge_cnt (k : KI) : ∀ (l m : List B3), cntE (mergeB (fun p q => p || q) l m) k + cntE (mergeB (fun p q => p && q) l m) k = cntE l k + cntE m k
  | [], [] => by simp [mergeB, cntE]
  | a :: l, [] => by
    have := merge_cnt k l []
    simp only [mergeB, cntE_append, cntE] at *
    simp [cntE] at *
    omega
  | [], b :: m => by
    have := merge_cnt k [] m
    simp only [mergeB, cntE_append, cntE] at *
    simp [cntE] at *
    omega
  | a :: l, b :: m => by
    have h1 := merge_cnt k l (b :: m)
    have h2 := merge_cnt k (a :: l) m
    have h3 := merge_cnt k l m
    rw [mergeB, mergeB]
    by_cases c1 : lessB a b = true
    · simp only [c1, if_true, cntE_append]
      simp [cntE] at *
      omega
    · by_cases c2 : lessB b a = true
      · simp only [c1, c2, if_true, cntE_append]
        simp [cntE] at *
        omega
      · have hab : a = b := less_tri (by simpa using c1) (by simpa using c2)
        subst hab
        simp only [c1, cntE_append]
        simp [cntE] at *
        omega
  termination_by l m => l.length + m.length
theorem merge_len : ∀ (l m : List B3), (mergeB (fun p q => p || q) l m).length + (mergeB (fun p q => p && q) l m).length = l.length + m.length
  | [], [] => by simp [mergeB]
  | a :: l, [] => by
    have := merge_len l []
    simp [mergeB] at *
    omega
  | [], b :: m => by
    have := merge_len [] m
    simp [mergeB] at *
    omega
  | a :: l, b :: m => by
    have h1 := merge_len l (b :: m)
    have h2 := merge_len (a :: l) m
    have h3 := merge_len l m
    rw [mergeB, mergeB]
    by_cases c1 : lessB a b = true
    · simp [c1] at *
      omega
    · by_cases c2 : lessB b a = true
      · simp [c1, c2] at *
        omega
      · simp [c1, c2] at *
        omega
  termination_by l m => l.length + m.length
section
variable {a b : List B3}
theorem union_comm (ha : Asc a) (hb : Asc b) : mergeB (fun p q => p || q) a b = mergeB (fun p q => p || q) b a :=
  asc_ext (mergeB_asc _ a b ha hb) (mergeB_asc _ b a hb ha) fun x => by
    rw [mergeB_mem' ha hb, mergeB_mem' hb ha]
    by_cases h1 : x ∈ a <;> by_cases h2 : x ∈ b <;> simp [h1, h2]
theorem meet_comm (ha : Asc a) (hb : Asc b) : mergeB (fun p q => p && q) a b = mergeB (fun p q => p && q) b a :=
  asc_ext (mergeB_asc _ a b ha hb) (mergeB_asc _ b a hb ha) fun x => by
    rw [mergeB_mem' ha hb, mergeB_mem' hb ha]
    by_cases h1 : x ∈ a <;> by_cases h2 : x ∈ b <;> simp [h1, h2]
theorem back_law (ha : Asc a) (hb : Asc b) : mergeB (fun p q => p || q) (mergeB (fun p q => p && !q) a b) (mergeB (fun p q => p && q) a b) = a :=
  asc_ext (mergeB_asc _ _ _ (mergeB_asc _ a b ha hb) (mergeB_asc _ a b ha hb)) ha fun x => by
    rw [mergeB_mem' (mergeB_asc _ a b ha hb) (mergeB_asc _ a b ha hb), mergeB_mem' ha hb, mergeB_mem' ha hb]
    by_cases h1 : x ∈ a <;> by_cases h2 : x ∈ b <;> simp [h1, h2]
theorem none_law (ha : Asc a) (hb : Asc b) : mergeB (fun p q => p && q) (mergeB (fun p q => p && !q) a b) b = [] :=
  asc_ext (mergeB_asc _ _ _ (mergeB_asc _ a b ha hb) hb) List.Pairwise.nil fun x => by
    rw [mergeB_mem' (mergeB_asc _ a b ha hb) hb, mergeB_mem' ha hb]
    by_cases h1 : x ∈ a <;> by_cases h2 : x ∈ b <;> simp [h1, h2]
theorem merge_net {keep : Bool → Bool → Bool} (ha : netE a = 0) (hb : netE b = 0) (hl : a.length + b.length ≤ 4096) : netE (mergeB keep a b) = 0 := by
  obtain ⟨a1, a2, _⟩ := netE_zero ha
  obtain ⟨b1, b2, _⟩ := netE_zero hb
  refine netE_of (mergeB_asc keep a b a1 b1) (fun x hx => ?_) (Nat.le_trans (mergeB_length keep a b) hl)
  rcases mergeB_sub a1 b1 hx with h | h
  · exact a2 x h
  · exact b2 x h
end

def mrgR (K : Bool → Bool → Bool) (a b : List B3) : Option (Value × List Row) := some (.slice (some ⟨2, 0, none⟩) (mergeB K a b).length (GC 3), [.flat (barCells (mergeB K a b)) 60])
def mrgG (g : Nat) (a b : List B3) : Option (Value × List Row) := if a.length + b.length ≤ 4096 then (if g = 117 then mrgR kU a b else if g = 104 then mrgR kD a b else if g = 118 then mrgR kM a b else none) else none
def fMrg (ts : List Value) (cs : List (List Value)) : Option (Value × List Row) :=
  match ts, cs with
  | [.slice (some ⟨0, 0, none⟩) n1 p1, .slice (some ⟨1, 0, none⟩) n2 p2, .func (.func f) ⟨[]⟩ ⟨[]⟩, .func (.func g) ⟨[]⟩ ⟨[]⟩], cs => if p1 = GC 3 ∧ p2 = GC 3 ∧ f = 98 then net2 (mrgG g) [sv 0 0 n1 p1, sv 1 0 n2 p2] cs else none
  | _, _ => none
noncomputable def gMrg := gen [.sl, .sl, .fu, .fu] fMrg
/-- Two nets whose slices are theirs alone. -/
def netG (F : List B3 → List B3 → Option (Value × List Row)) (ts : List Value) (cs : List (List Value)) : Option (Value × List Row) :=
  match ts, cs with
  | [.slice (some ⟨0, 0, none⟩) n1 p1, .slice (some ⟨1, 0, none⟩) n2 p2], cs => if p1 = GC 3 ∧ p2 = GC 3 then net2 F [sv 0 0 n1 p1, sv 1 0 n2 p2] cs else none
  | _, _ => none
def fPut (K : Bool → Bool → Bool) (a b : List B3) : Option (Value × List Row) := if a.length + b.length ≤ 4096 then
  (if firstE [netE a, netE b] = 0 then some (.tuple #[.slice (some ⟨2, 0, none⟩) (mergeB K a b).length (GC 3), iv 0], [.flat (barCells (mergeB K a b)) 60]) else some (.tuple #[.slice none 0 0, iv (firstE [netE a, netE b])], [])) else none
noncomputable def gPut (K : Bool → Bool → Bool) := gen [.sl, .sl] (netG (fPut K))
section
variable {c1 c2 : List Value} {a b : List B3} {b1 b2 : Nat}
theorem res_slslff {h : AHeap} {n n' p p' : Nat} (g : Nat) (hf : c1.all flatCell = true) (hg : RowAt h b1 c1) (hf' : c2.all flatCell = true) (hg' : RowAt h b2 c2) : resolve h [.sl, .sl, .fu, .fu] 0 [.slice (some ⟨b1, 0, none⟩) n p, .slice (some ⟨b2, 0, none⟩) n' p', fnv98, fnG g] = some ([sv 0 0 n p, sv 1 0 n' p', fnv98, fnG g], [(some b1, c1), (some b2, c2)]) := by
  have h1 : fnV fnv98 = true := rfl
  have h2 : fnV (fnG g) = true := rfl
  simp only [resolve, slArg_of hf hg, slArg_of hf' hg', h1, h2]
theorem mrg_ans {K : Bool → Bool → Bool} {g : Nat} (hK : mrgG g a b = mrgR K a b) (h1 : slice? c1 0 (a.length * 3) = some (barCells a)) (h2 : slice? c2 0 (b.length * 3) = some (barCells b)) (hl : a.length + b.length ≤ 4096) (hf : c1.all flatCell = true) (hf' : c2.all flatCell = true) (h : AHeap) (hg : RowAt h b1 c1) (hg' : RowAt h b2 c2) :
    gMrg [.slice (some ⟨b1, 0, none⟩) a.length (GC 3), .slice (some ⟨b2, 0, none⟩) b.length (GC 3), fnv98, fnG g] h = some (.slice (some ⟨h.next, 0, none⟩) (mergeB K a b).length (GC 3), h.alloc (.cells (barCells (mergeB K a b)) 60)) := by
  refine gen_ans1 (v := .slice (some ⟨2, 0, none⟩) (mergeB K a b).length (GC 3)) (res_slslff g hf hg hf' hg') ?_ ?_
  · show (if GC 3 = GC 3 ∧ GC 3 = GC 3 ∧ 98 = 98 then net2 (mrgG g) [sv 0 0 a.length (GC 3), sv 1 0 b.length (GC 3)] [c1, c2] else none) = _
    rw [if_pos ⟨rfl, rfl, rfl⟩, net2_eq h1 h2 (by omega) (by omega), hK]
    rfl
  · simp only [ren2, ren1, ren0, shift_self, List.length_cons, List.length_nil, Nat.zero_add]
theorem put_ans {K : Bool → Bool → Bool} (h1 : slice? c1 0 (a.length * 3) = some (barCells a)) (h2 : slice? c2 0 (b.length * 3) = some (barCells b)) (hl : a.length + b.length ≤ 4096) (ha : netE a = 0) (hb : netE b = 0) (hf : c1.all flatCell = true) (hf' : c2.all flatCell = true) (h : AHeap) (hg : RowAt h b1 c1) (hg' : RowAt h b2 c2) :
    gPut K [.slice (some ⟨b1, 0, none⟩) a.length (GC 3), .slice (some ⟨b2, 0, none⟩) b.length (GC 3)] h = some (.tuple #[.slice (some ⟨h.next, 0, none⟩) (mergeB K a b).length (GC 3), iv 0], h.alloc (.cells (barCells (mergeB K a b)) 60)) := by
  refine gen_ans1 (v := .tuple #[.slice (some ⟨2, 0, none⟩) (mergeB K a b).length (GC 3), iv 0]) (res_slsl hf hg hf' hg') ?_ ?_
  · show (if GC 3 = GC 3 ∧ GC 3 = GC 3 then net2 (fPut K) [sv 0 0 a.length (GC 3), sv 1 0 b.length (GC 3)] [c1, c2] else none) = _
    rw [if_pos ⟨rfl, rfl⟩, net2_eq h1 h2 (by omega) (by omega)]
    unfold fPut
    rw [if_pos hl, first2, if_pos ha, if_pos hb]
  · simp only [ren2, ren1, ren0, mapO, shift_self, List.length_cons, List.length_nil, Nat.zero_add]
theorem put_bad {K : Bool → Bool → Bool} (h1 : slice? c1 0 (a.length * 3) = some (barCells a)) (h2 : slice? c2 0 (b.length * 3) = some (barCells b)) (hl : a.length + b.length ≤ 4096) (hz : 0 < firstE [netE a, netE b]) (hf : c1.all flatCell = true) (hf' : c2.all flatCell = true) (h : AHeap) (hg : RowAt h b1 c1) (hg' : RowAt h b2 c2) :
    gPut K [.slice (some ⟨b1, 0, none⟩) a.length (GC 3), .slice (some ⟨b2, 0, none⟩) b.length (GC 3)] h = some (.tuple #[.slice none 0 0, iv (firstE [netE a, netE b])], h) := by
  refine gen_ans (v := .tuple #[.slice none 0 0, iv (firstE [netE a, netE b])]) (res_slsl hf hg hf' hg') ?_ rfl
  show (if GC 3 = GC 3 ∧ GC 3 = GC 3 then net2 (fPut K) [sv 0 0 a.length (GC 3), sv 1 0 b.length (GC 3)] [c1, c2] else none) = _
  rw [if_pos ⟨rfl, rfl⟩, net2_eq h1 h2 (by omega) (by omega)]
  unfold fPut
  rw [if_pos hl, if_neg (Int.ne_of_gt hz)]
end

theorem c133 : IntrOk E0 133 gMrg := by
  refine gen0 KB rfl (fn := Tryz.f133) (by kernel_rfl) ?_
  intro ts cs v rows hf h
  unfold fMrg at h
  split at h
  rotate_left
  · cases h
  rename_i n1 p1 n2 p2 f g
  split at h
  rotate_left
  · cases h
  rename_i hg
  obtain ⟨rfl, rfl, rfl⟩ := hg
  obtain ⟨o1, o2, q1, q2, c1, c2, a, b, e1, rfl, h1, h2, hn1, hn2, h3⟩ := net2_some h
  clear h
  simp only [List.cons.injEq, Value.slice.injEq, Option.some.injEq, Addr.mk.injEq, and_true, true_and] at e1
  obtain ⟨⟨rfl, rfl, rfl⟩, rfl, rfl, rfl⟩ := e1
  unfold mrgG at h3
  split at h3
  rotate_left
  · cases h3
  rename_i hl
  have f1 := hf c1 (by simp)
  have f2 := hf c2 (by simp)
  by_cases hg117 : g = 117
  · subst hg117
    have h3 : mrgR kU a b = some (v, rows) := h3
    cases h3
    have i1 := loop133_117 f1 f2 (a.length + b.length) a b 0 (GC 3) 0 (GC 3) 0 [] rfl (.gc _) (.gc _) h1 h2 rfl (by omega)
    rw [List.nil_append] at i1
    have hfl := barCells_flat (mergeB kU a b)
    generalize mergeB kU a b = L at *
    show Shows EB Tryz.f133 [sv 0 0 a.length (GC 3), sv 1 0 b.length (GC 3), fnv98, fnG 117] [c1, c2] _ _
    clear h1 h2
    generalize a.length = n1 at *
    generalize b.length = n2 at *
    exact Shows.ret [(8, (.slice (some ⟨2, 0, none⟩) L.length (GC 3)))] rfl (path_pf KB rfl (finC 2 [(2, .flat 2)] [8]) [.loop { next := 3, blocks := [(0, .flat 0), (1, .flat 1), (2, .dummy 60)], tmps := [(0, .same), (1, .same), (2, .same), (3, .same), (9, .nilG 2 3)] } i1, .b f1, .b f2, .b f1, .b f2, .b hfl] (by kernel_rfl)) (by kernel_rfl) (fits_of (by simp only [List.all_cons, Row.fitsB, hfl, List.all_nil, Bool.and_true]))
  by_cases hg104 : g = 104
  · subst hg104
    have h3 : mrgR kD a b = some (v, rows) := h3
    cases h3
    have i1 := loop133_104 f1 f2 (a.length + b.length) a b 0 (GC 3) 0 (GC 3) 0 [] rfl (.gc _) (.gc _) h1 h2 rfl (by omega)
    rw [List.nil_append] at i1
    have hfl := barCells_flat (mergeB kD a b)
    generalize mergeB kD a b = L at *
    show Shows EB Tryz.f133 [sv 0 0 a.length (GC 3), sv 1 0 b.length (GC 3), fnv98, fnG 104] [c1, c2] _ _
    clear h1 h2
    generalize a.length = n1 at *
    generalize b.length = n2 at *
    exact Shows.ret [(8, (.slice (some ⟨2, 0, none⟩) L.length (GC 3)))] rfl (path_pf KB rfl (finC 2 [(2, .flat 2)] [8]) [.loop { next := 3, blocks := [(0, .flat 0), (1, .flat 1), (2, .dummy 60)], tmps := [(0, .same), (1, .same), (2, .same), (3, .same), (9, .nilG 2 3)] } i1, .b f1, .b f2, .b f1, .b f2, .b hfl] (by kernel_rfl)) (by kernel_rfl) (fits_of (by simp only [List.all_cons, Row.fitsB, hfl, List.all_nil, Bool.and_true]))
  by_cases hg118 : g = 118
  · subst hg118
    have h3 : mrgR kM a b = some (v, rows) := h3
    cases h3
    have i1 := loop133_118 f1 f2 (a.length + b.length) a b 0 (GC 3) 0 (GC 3) 0 [] rfl (.gc _) (.gc _) h1 h2 rfl (by omega)
    rw [List.nil_append] at i1
    have hfl := barCells_flat (mergeB kM a b)
    generalize mergeB kM a b = L at *
    show Shows EB Tryz.f133 [sv 0 0 a.length (GC 3), sv 1 0 b.length (GC 3), fnv98, fnG 118] [c1, c2] _ _
    clear h1 h2
    generalize a.length = n1 at *
    generalize b.length = n2 at *
    exact Shows.ret [(8, (.slice (some ⟨2, 0, none⟩) L.length (GC 3)))] rfl (path_pf KB rfl (finC 2 [(2, .flat 2)] [8]) [.loop { next := 3, blocks := [(0, .flat 0), (1, .flat 1), (2, .dummy 60)], tmps := [(0, .same), (1, .same), (2, .same), (3, .same), (9, .nilG 2 3)] } i1, .b f1, .b f2, .b f1, .b f2, .b hfl] (by kernel_rfl)) (by kernel_rfl) (fits_of (by simp only [List.all_cons, Row.fitsB, hfl, List.all_nil, Bool.and_true]))
  rw [if_neg hg117, if_neg hg104, if_neg hg118] at h3
  cases h3
end Go.Proofs.YtlkhpgocbojdgaaGreatDoor.Ai
