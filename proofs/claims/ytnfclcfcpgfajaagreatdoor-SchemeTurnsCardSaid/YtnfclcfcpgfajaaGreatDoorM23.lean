/- A part of the proof that parser laws hold: texts of the walk and of its plain laws, made small. -/
import Derived.Test.YtnfclcfcpgfajaaGreatDoorM22
import Derived.Lib.SliceRun
set_option linter.unusedVariables false
set_option linter.unusedSimpArgs false
/- Plain laws of types: holes renamed; canonical names; facts of holes that are not there. -/
namespace Go.Proofs.YtnfclcfcpgfajaaGreatDoor

/-- A type whose holes have other numbers. -/
def mapH (g : Int → Int) : Ty → Ty
  | .mk s n l => if holeS s = true then .mk ⟨#[]⟩ (g n) [] else .mk s 0 (mapL g l)
where mapL (g : Int → Int) : List Ty → List Ty
  | [] => []
  | e :: r => mapH g e :: mapL g r
theorem mapL_map (g : Int → Int) (l : List Ty) : mapH.mapL g l = l.map (mapH g) := by
  induction l with
  | nil => rfl
  | cons e r ih => simp only [mapH.mapL, List.map_cons, ih]
theorem holeS_nil : holeS ⟨#[]⟩ = true := by rw [holeS_size]; rfl
theorem holeS_eq {s : Str} (h : holeS s = true) : s = ⟨#[]⟩ := by
  rw [holeS_size] at h
  have h0 : s.size = 0 := by simpa using h
  cases s with
  | mk d =>
    have : d.size = 0 := h0
    rw [Array.eq_empty_of_size_eq_zero this]
theorem allL_flat (l : List Ty) : allT.allL l = l.flatMap allT := by
  induction l with
  | nil => rfl
  | cons e r ih => simp only [allT.allL, List.flatMap_cons, ih]
theorem allT_mk (s : Str) (n : Int) (l : List Ty) : allT (.mk s n l) = if holeS s = true then [n] else l.flatMap allT := by
  rw [allT, allL_flat]
theorem cntL_map (f : Ty → Ty) (l : List Ty) (h : ∀ e ∈ l, tcnt (f e) = tcnt e) : tcnt.cntL (l.map f) = tcnt.cntL l := by
  induction l with
  | nil => rfl
  | cons e r ih =>
    simp only [List.map_cons, tcnt.cntL]
    rw [h e (by simp), ih fun x hx => h x (by simp [hx])]
theorem snd_open {s : Str} {n : Int} {l : List Ty} {d : Int} (h : sndT (.mk s n l) d = true) : 0 < d ∧ s.size ≤ 20 ∧ (holeS s = true → 0 ≤ n ∧ l = []) ∧ (holeS s = false → n = 0) ∧ ∀ e ∈ l, sndT e (d - 1) = true := by
  simp only [sndT, Bool.and_eq_true, decide_eq_true_eq, headT, sndT_all, List.all_eq_true] at h
  obtain ⟨⟨h1, h2, h3⟩, h4⟩ := h
  refine ⟨h1, h2, fun hs => ?_, fun hs => ?_, h4⟩
  · rw [holeS_size] at hs
    rw [if_pos (by simpa using hs)] at h3
    simp only [Bool.and_eq_true, decide_eq_true_eq] at h3
    exact ⟨h3.1, List.length_eq_zero_iff.1 h3.2⟩
  · rw [holeS_size] at hs
    rw [if_neg (by simpa using hs)] at h3
    simpa using h3

theorem allT_map (g : Int → Int) : ∀ e : Ty, allT (mapH g e) = (allT e).map g := by
  refine Ty.ind fun s n l ih => ?_
  rw [mapH, allT_mk]
  by_cases h : holeS s = true
  · rw [if_pos h, if_pos h, allT_mk, if_pos holeS_nil]; rfl
  · rw [if_neg h, if_neg h, allT_mk, if_neg h, mapL_map]
    induction l with
    | nil => rfl
    | cons e r ihl =>
      simp only [List.map_cons, List.flatMap_cons, List.map_append]
      rw [ih e (by simp), ihl fun x hx => ih x (by simp [hx])]
theorem mapH_mapH (f g : Int → Int) : ∀ e : Ty, mapH f (mapH g e) = mapH (fun n => f (g n)) e := by
  refine Ty.ind fun s n l ih => ?_
  rw [mapH, mapH]
  by_cases h : holeS s = true
  · rw [if_pos h, if_pos h, mapH, if_pos holeS_nil]
  · rw [if_neg h, if_neg h, mapH, if_neg h, mapL_map, mapL_map, mapL_map, List.map_map]
    congr 1
    exact List.map_congr_left fun e he => ih e he
theorem mapH_congr {f g : Int → Int} : ∀ e : Ty, (∀ n ∈ allT e, f n = g n) → mapH f e = mapH g e := by
  refine Ty.ind fun s n l ih h => ?_
  rw [mapH, mapH]
  rw [allT_mk] at h
  by_cases hs : holeS s = true
  · rw [if_pos hs] at h ⊢
    rw [if_pos hs, h n (by simp)]
  · rw [if_neg hs] at h ⊢
    rw [if_neg hs, mapL_map, mapL_map]
    congr 1
    exact List.map_congr_left fun e he => ih e he fun n hn => h n (List.mem_flatMap.2 ⟨e, he, hn⟩)
theorem mapH_id : ∀ (e : Ty) (d : Int), sndT e d = true → mapH (fun n => n) e = e := by
  refine Ty.ind fun s n l ih d h => ?_
  obtain ⟨_, _, h1, h2, h3⟩ := snd_open h
  rw [mapH]
  by_cases hs : holeS s = true
  · rw [if_pos hs, (h1 hs).2, holeS_eq hs]
  · rw [if_neg hs, h2 (by simpa using hs), mapL_map]
    congr 1
    exact (List.map_congr_left fun e he => ih e he _ (h3 e he)).trans (List.map_id l)
theorem tcnt_map (g : Int → Int) : ∀ (e : Ty) (d : Int), sndT e d = true → tcnt (mapH g e) = tcnt e := by
  refine Ty.ind fun s n l ih d h => ?_
  obtain ⟨_, _, h1, h2, h3⟩ := snd_open h
  rw [mapH]
  by_cases hs : holeS s = true
  · rw [if_pos hs, (h1 hs).2]; rfl
  · rw [if_neg hs, mapL_map]
    simp only [tcnt]
    rw [cntL_map _ _ fun e he => ih e he _ (h3 e he)]
theorem headT_hole {n : Int} (h : 0 ≤ n) : headT ⟨#[]⟩ n 0 = true := by
  have : ByteArray.size (⟨#[]⟩ : Str) = 0 := rfl
  simp [headT, this, h]
theorem sndT_hole {n d : Int} (h : 0 ≤ n) (hd : 0 < d) : sndT (.mk ⟨#[]⟩ n []) d = true := by
  simp [sndT, headT_hole h, hd, sndT.sndL]
theorem sndT_map (g : Int → Int) : ∀ (e : Ty) (d : Int), sndT e d = true → (∀ n ∈ allT e, 0 ≤ g n) → sndT (mapH g e) d = true := by
  refine Ty.ind fun s n l ih d h hg => ?_
  obtain ⟨h0, hz, h1, h2, h3⟩ := snd_open h
  rw [mapH]
  rw [allT_mk] at hg
  by_cases hs : holeS s = true
  · rw [if_pos hs] at hg ⊢
    exact sndT_hole (hg n (by simp)) h0
  · rw [if_neg hs] at hg ⊢
    have hn := h2 (by simpa using hs)
    subst hn
    rw [mapL_map]
    simp only [sndT, Bool.and_eq_true, sndT_all, List.all_eq_true] at h ⊢
    refine ⟨⟨h.1.1, by rw [List.length_map]; exact h.1.2⟩, fun e he => ?_⟩
    obtain ⟨x, hx, rfl⟩ := List.mem_map.1 he
    exact ih x hx _ (h3 x hx) fun n hn => hg n (List.mem_flatMap.2 ⟨x, hx, hn⟩)
theorem chk_snd {e : Ty} (h : chkT e = true) : sndT e 60 = true := by simp only [chkT, Bool.and_eq_true] at h; exact h.2
theorem chkT_map {g : Int → Int} {e : Ty} (h : chkT e = true) (hg : ∀ n ∈ allT e, 0 ≤ g n) : chkT (mapH g e) = true := by
  have hs := chk_snd h
  simp only [chkT, Bool.and_eq_true, decide_eq_true_eq] at h ⊢
  exact ⟨by rw [tcnt_map g e 60 hs]; exact h.1, sndT_map g e 60 hs hg⟩
theorem all_nonneg : ∀ (e : Ty) (d : Int), sndT e d = true → ∀ n ∈ allT e, 0 ≤ n := by
  refine Ty.ind fun s n l ih d h m hm => ?_
  obtain ⟨h0, hz, h1, h2, h3⟩ := snd_open h
  rw [allT_mk] at hm
  by_cases hs : holeS s = true
  · rw [if_pos hs] at hm; simp at hm; subst hm; exact (h1 hs).1
  · rw [if_neg hs] at hm
    obtain ⟨e, he, hm⟩ := List.mem_flatMap.1 hm
    exact ih e he _ (h3 e he) m hm
/-- Facts that tell other holes of holes. -/
theorem putT_map {L : List Fa} {g : Int → Int} : ∀ (e : Ty), (∀ n ∈ allT e, (fa? L n).getD (.mk ⟨#[]⟩ n []) = .mk ⟨#[]⟩ (g n) []) → putT L e = mapH g e := by
  refine Ty.ind fun s n l ih h => ?_
  rw [putT, mapH]
  rw [allT_mk] at h
  by_cases hs : holeS s = true
  · rw [if_pos hs] at h ⊢
    rw [if_pos hs, h n (by simp)]
  · rw [if_neg hs] at h ⊢
    rw [if_neg hs, putL_map, mapL_map]
    congr 1
    exact List.map_congr_left fun e he => ih e he fun n hn => h n (List.mem_flatMap.2 ⟨e, he, hn⟩)
theorem allT_put (L : List Fa) : ∀ e : Ty, allT (putT L e) = (allT e).flatMap fun n => allT ((fa? L n).getD (.mk ⟨#[]⟩ n [])) := by
  refine Ty.ind fun s n l ih => ?_
  rw [putT, allT_mk]
  by_cases h : holeS s = true
  · rw [if_pos h, if_pos h]; simp
  · rw [if_neg h, if_neg h, allT_mk, if_neg h, putL_map]
    induction l with
    | nil => rfl
    | cons e r ihl =>
      simp only [List.map_cons, List.flatMap_cons, List.flatMap_append]
      rw [ih e (by simp), ihl fun x hx => ih x (by simp [hx])]

theorem addI_in (m : List Int) (a x : Int) (h : x ∈ addI m a) : x ∈ m ∨ x = a := by
  unfold addI at h
  split at h
  · exact .inl h
  · rcases List.mem_append.1 h with h | h
    · exact .inl h
    · exact .inr (List.mem_singleton.1 h)
theorem onceL_map {g : Int → Int} (l : List Int) (hg : ∀ x ∈ l, ∀ y ∈ l, g x = g y → x = y) : onceL (l.map g) = (onceL l).map g := by
  have h : ∀ (r m : List Int), (∀ x ∈ r ++ m, ∀ y ∈ r ++ m, g x = g y → x = y) → (r.map g).foldl addI (m.map g) = (r.foldl addI m).map g := by
    intro r
    induction r with
    | nil => intro m _; rfl
    | cons a r ih =>
      intro m hm
      simp only [List.map_cons, List.foldl_cons]
      have e : addI (m.map g) (g a) = (addI m a).map g := by
        unfold addI
        by_cases ha : a ∈ m
        · rw [if_pos ha, if_pos (List.mem_map.2 ⟨a, ha, rfl⟩)]
        · rw [if_neg ha, if_neg (fun h => by
            obtain ⟨b, hb, e⟩ := List.mem_map.1 h
            have := hm b (by simp [hb]) a (by simp) e
            subst this
            exact ha hb)]
          simp
      rw [e]
      have mv : ∀ x, x ∈ r ++ addI m a → x ∈ a :: r ++ m := fun x hx => by
        rcases List.mem_append.1 hx with h | h
        · exact List.mem_append.2 (.inl (List.mem_cons_of_mem _ h))
        · rcases addI_in _ _ _ h with h | h
          · exact List.mem_append.2 (.inr h)
          · exact List.mem_append.2 (.inl (by rw [h]; simp))
      exact ih _ fun x hx y hy => hm x (mv x hx) y (mv y hy)
  have := h l [] (by simpa using hg)
  simpa [onceL] using this

theorem fa_canon (H : List Int) (n : Int) : fa? (canonF H) n = if n ∈ H then some (.mk ⟨#[]⟩ (H.idxOf n : Nat) []) else none := by
  have h : ∀ (H : List Int) (f : Nat → Int), fa? (H.mapIdx fun i m => (⟨m, .mk ⟨#[]⟩ (f i) []⟩ : Fa)) n = if n ∈ H then some (.mk ⟨#[]⟩ (f (H.idxOf n)) []) else none := by
    intro H
    induction H with
    | nil => intro f; rfl
    | cons a r ih =>
      intro f
      rw [List.mapIdx_cons]
      simp only [fa?]
      by_cases e : a = n
      · subst e; simp
      · rw [if_neg e, ih fun i => f (i + 1)]
        have e' : ¬ n = a := fun h => e h.symm
        simp [e', List.idxOf_cons, show (a == n) = false from by simpa using e]
  exact h H (fun i => (i : Int))
theorem canon_map {e : Ty} (h : chkT e = true) : canonT e = mapH (fun n => ((onceL (allT e)).idxOf n : Nat)) e := by
  rw [canonT, if_pos h, holes_fold]
  refine putT_map e fun n hn => ?_
  rw [fa_canon, if_pos (by show n ∈ onceL (allT e); rw [onceL_mem]; exact hn)]
  rfl
theorem idxOf_inj {H : List Int} {x y : Int} (hx : x ∈ H) (hy : y ∈ H) (h : H.idxOf x = H.idxOf y) : x = y := by
  have h1 := List.getElem_idxOf (List.idxOf_lt_length_iff.2 hx)
  have h2 := List.getElem_idxOf (List.idxOf_lt_length_iff.2 hy)
  rw [← h1, ← h2]
  congr 1
theorem idxOf_map {g : Int → Int} {H : List Int} {x : Int} (hx : x ∈ H) (hg : ∀ a ∈ H, ∀ b ∈ H, g a = g b → a = b) : (H.map g).idxOf (g x) = H.idxOf x := by
  induction H with
  | nil => simp at hx
  | cons a r ih =>
    by_cases e : a = x
    · subst e; simp
    · have hx' : x ∈ r := by rcases List.mem_cons.1 hx with h | h; · exact absurd h.symm e
                             · exact h
      have e2 : ¬ g a = g x := fun h => e (hg a (by simp) x hx h)
      rw [List.map_cons, List.idxOf_cons, List.idxOf_cons]
      rw [show ((g a == g x) = false) from by simpa using e2, show ((a == x) = false) from by simpa using e]
      simp only [cond_false]
      rw [ih hx' fun p hp q hq => hg p (by simp [hp]) q (by simp [hq])]
/-- The names by first places do not hang on which numbers there were. -/
theorem canon_of_map {g : Int → Int} {e : Ty} (h : chkT e = true) (h0 : ∀ n ∈ allT e, 0 ≤ g n) (hg : ∀ x ∈ allT e, ∀ y ∈ allT e, g x = g y → x = y) : canonT (mapH g e) = canonT e := by
  rw [canon_map (chkT_map h h0), canon_map h, mapH_mapH]
  refine mapH_congr e fun n hn => ?_
  rw [allT_map, onceL_map _ hg]
  rw [idxOf_map ((onceL_mem _ _).2 hn) fun a ha b hb => hg a ((onceL_mem _ _).1 ha) b ((onceL_mem _ _).1 hb)]
theorem canon_canon {e : Ty} (h : chkT e = true) : canonT (canonT e) = canonT e := by
  have h1 := canon_map h
  rw [h1, canon_of_map h (fun n _ => by omega) fun x hx y hy hxy => idxOf_inj ((onceL_mem _ _).2 hx) ((onceL_mem _ _).2 hy) (by omega), h1]
theorem chk_canon {e : Ty} (h : chkT e = true) : chkT (canonT e) = true := by rw [canon_map h]; exact chkT_map h fun n _ => by omega
theorem holesC_once {e : Ty} (h : chkT e = true) : holesC e = onceL (allT e) := by rw [holesC, if_pos h, holes_fold]; rfl
theorem holes_canon {e : Ty} (h : chkT e = true) : holesC (canonT e) = (holesC e).map fun n => (((holesC e).idxOf n : Nat) : Int) := by
  rw [holesC_once (chk_canon h), canon_map h, allT_map, onceL_map _ fun x hx y hy hxy => idxOf_inj ((onceL_mem _ _).2 hx) ((onceL_mem _ _).2 hy) (by omega), holesC_once h]
theorem idxOf_get {H : List Int} (hn : H.Nodup) (i : Nat) (hi : i < H.length) : H.idxOf H[i] = i := by
  have h1 : H.idxOf H[i] < H.length := List.idxOf_lt_length_iff.2 (List.getElem_mem hi)
  have h2 := List.getElem_idxOf h1
  exact (List.getElem_inj hn).1 h2
theorem holes_canon_get {e : Ty} (h : chkT e = true) (i : Nat) (hi : i < (holesC (canonT e)).length) : (holesC (canonT e))[i] = (i : Int) := by
  have hl : i < (holesC e).length := by rw [holes_canon h, List.length_map] at hi; exact hi
  have hn : (holesC e).Nodup := by rw [holesC_once h]; exact onceL_nodup _
  simp only [holes_canon h, List.getElem_map]
  rw [idxOf_get hn i hl]
/-- Facts that number holes anew, each its own. -/
def turnF (by' : Int) (H : List Int) : List Fa := H.mapIdx fun i n => ⟨n, .mk ⟨#[]⟩ (by' + H.length - i) []⟩
theorem fa_turn (by' : Int) (H : List Int) (n : Int) : fa? (turnF by' H) n = if n ∈ H then some (.mk ⟨#[]⟩ (by' + H.length - (H.idxOf n : Nat)) []) else none := by
  have h : ∀ (H : List Int) (f : Nat → Int), fa? (H.mapIdx fun i m => (⟨m, .mk ⟨#[]⟩ (f i) []⟩ : Fa)) n = if n ∈ H then some (.mk ⟨#[]⟩ (f (H.idxOf n)) []) else none := by
    intro H
    induction H with
    | nil => intro f; rfl
    | cons a r ih =>
      intro f
      rw [List.mapIdx_cons]
      simp only [fa?]
      by_cases e : a = n
      · subst e; simp
      · rw [if_neg e, ih fun i => f (i + 1)]
        have e' : ¬ n = a := fun h => e h.symm
        simp [e', List.idxOf_cons, show (a == n) = false from by simpa using e]
  exact h H fun i => by' + H.length - i
theorem names_turn {e : Ty} {by' : Int} (h : chkT e = true) (hb : 0 ≤ by') : canonT (applyT (turnF by' (holesC e)) e) = canonT e := by
  have hgood : ((chkT e && (turnF by' (holesC e)).all goodF) = true) := by
    rw [h, Bool.true_and, List.all_eq_true]
    intro f hf
    obtain ⟨i, hi, rfl⟩ := List.mem_mapIdx.1 hf
    have hp : ∀ m ∈ holesC e, 0 ≤ m := fun m hm => by
      rw [holesC_once h, onceL_mem] at hm
      exact all_nonneg e 60 (chk_snd h) _ hm
    have hn : 0 ≤ (holesC e)[i] := hp _ (List.getElem_mem hi)
    simp only [goodF, Bool.and_eq_true, decide_eq_true_eq]
    refine ⟨?_, hn⟩
    simp only [chkT, Bool.and_eq_true, decide_eq_true_eq]
    exact ⟨by simp [tcnt, tcnt.cntL], sndT_hole (by omega) (by omega)⟩
  rw [applyT, if_pos hgood]
  have hm : putT (turnF by' (holesC e)) e = mapH (fun n => by' + (holesC e).length - ((holesC e).idxOf n : Nat)) e := putT_map e fun n hn => by
    rw [fa_turn, if_pos (by rw [holesC_once h, onceL_mem]; exact hn)]
    rfl
  rw [hm]
  refine canon_of_map h (fun n hn => ?_) fun x hx y hy hxy => ?_
  · have := List.idxOf_lt_length_iff.2 (show n ∈ holesC e by rw [holesC_once h, onceL_mem]; exact hn)
    omega
  · exact idxOf_inj (H := holesC e) (by rw [holesC_once h, onceL_mem]; exact hx) (by rw [holesC_once h, onceL_mem]; exact hy) (by omega)

/-- A fact of a hole that is not there does nothing. -/
theorem idle_put {e b : Ty} {n d : Int} (h : sndT e d = true) (hn : n ∉ allT e) : putT [⟨n, b⟩] e = e := by
  rw [putT_map (g := fun n => n) e fun m hm => by
    simp only [fa?]
    rw [if_neg (fun (q : n = m) => hn (q ▸ hm))]
    rfl]
  exact mapH_id e d h
/-- A fact that a hole is itself does nothing. -/
theorem idle_self {e : Ty} {n d : Int} (h : sndT e d = true) : putT [⟨n, .mk ⟨#[]⟩ n []⟩] e = e := by
  rw [putT_map (g := fun n => n) e fun m hm => by
    simp only [fa?]
    by_cases q : n = m
    · rw [if_pos q, ← q]; rfl
    · rw [if_neg q]; rfl]
  exact mapH_id e d h
theorem idle_gone {e b : Ty} {n : Int} (hb : n ∉ allT b) : n ∉ allT (putT [⟨n, b⟩] e) := by
  rw [allT_put]
  intro h
  obtain ⟨m, _, hm2⟩ := List.mem_flatMap.1 h
  simp only [fa?] at hm2
  by_cases q : n = m
  · rw [if_pos q] at hm2; exact hb hm2
  · rw [if_neg q] at hm2
    simp only [Option.getD_none, allT_mk, holeS_nil, if_true, List.mem_singleton] at hm2
    exact q hm2
end Go.Proofs.YtnfclcfcpgfajaaGreatDoor

/- Schemes in memory; whether a scheme may be. -/
namespace Go.Proofs.YtnfclcfcpgfajaaGreatDoor
open Go.RowKit Go.Shelf

structure Sc where
  all : List Int
  ty : Ty
/-- A value is a scheme. -/
def IsSc (w : World) (v : Value) (s : Sc) : Prop := ∃ a c v0 v1 v2, v = .agg #[.slice a s.all.length c, v0, v1, v2] ∧ s.all.length ≤ lenMax ∧ (∀ n ∈ s.all, In64 n) ∧ IntAt w a s.all ∧ IsTy w (.agg #[v0, v1, v2]) s.ty
theorem IsSc.below {w W : World} {v : Value} {s : Sc} (h : IsSc w v s) (hB : Below w.heap.size w W) : IsSc W v s := by
  obtain ⟨a, c, v0, v1, v2, h1, h2, h3, h4, h5⟩ := h
  exact ⟨a, c, v0, v1, v2, h1, h2, h3, h4.keeps (Keeps.of_below hB), h5.below hB⟩
theorem IsSc.form {w : World} {v0 v1 v2 v3 : Value} {s : Sc} (h : IsSc w (.agg #[v0, v1, v2, v3]) s) : ∃ a c a2 c2, v0 = .slice a s.all.length c ∧ v1 = .string s.ty.name ∧ v2 = .int .i64 s.ty.n ∧ v3 = .slice a2 s.ty.args.length c2 := by
  obtain ⟨a, c, u0, u1, u2, h1, _, _, _, h5⟩ := h
  simp only [Value.agg.injEq, Array.mk.injEq, List.cons.injEq, and_true] at h1
  obtain ⟨rfl, rfl, rfl, rfl⟩ := h1
  obtain ⟨a2, c2, h2⟩ := h5.form
  simp only [Value.agg.injEq, Array.mk.injEq, List.cons.injEq, and_true] at h2
  obtain ⟨rfl, rfl, rfl⟩ := h2
  exact ⟨a, c, a2, c2, rfl, rfl, rfl, rfl⟩
/-- Whether numbers are all among some, and none is there twice. -/
def inOnce (hs : List Int) (all : List Int) : Bool := !((List.range all.length).any fun k => !decide (all.getD k 0 ∈ hs ∧ all.getD k 0 ∉ all.take k))
theorem inOnce_iff {hs : List Int} {all : List Int} : inOnce hs all = true ↔ ∀ k (h : k < all.length), all[k] ∈ hs ∧ all[k] ∉ all.take k := by
  unfold inOnce
  rw [Bool.not_eq_true', List.any_eq_false]
  constructor
  · intro h k hk
    have := h k (by simpa using hk)
    have e : all.getD k 0 = all[k] := by simp [hk]
    rw [e] at this
    simpa using this
  · intro h k hk
    have hk' : k < all.length := by simpa using hk
    have e : all.getD k 0 = all[k] := by simp [hk']
    rw [e]
    have := h k hk'
    simpa using this
def chkSc (s : Sc) : Bool := chkT s.ty && inOnce (holesC s.ty) s.all
theorem holes64 {w : World} {v : Value} {e : Ty} (h : IsTy w v e) : ∀ m ∈ holesC e, In64 m := by
  intro m hm
  unfold holesC at hm
  split at hm
  · exact holes_in64 e [] h (by simp) m hm
  · cases hm
theorem holesC_len (e : Ty) : (holesC e).length ≤ 2000 := by
  cases hc : chkT e with
  | false => unfold holesC; rw [if_neg (by rw [hc]; simp)]; simp
  | true =>
    rw [holesC_once hc]
    have h1 := onceL_len (allT e)
    have h2 := allT_len e
    have h3 := chk_cnt hc
    omega
theorem run_looks {w : World} {mb n : Nat} {f : Lit → Option Value} (h : MapOf Tryz.prog w 3 mb n f) {x : Int} (hx : In64 x) {m : Bool} (hm : (f (keyN x)).getD (.bool false) = .bool m) : (Instr.lookup 107 (.map (some mb)) (.int .i64 x) false).run Tryz.prog w = .ok (.bool m) w := by
  have := h.look (Maps.int_keyed Tryz.underlying3) Tryz.underlying107 (z := .bool false) (by kernel_rfl) (keyN_of hx)
  rw [hm] at this
  exact this
set_option maxHeartbeats 1600000 in
/-- The closure within Check: what is left. -/
theorem sc_left (mc mb n : Nat) (f : Lit → Option Value) (x : Int) (m : Bool) (w : World) (hx : In64 x) (hc : w.cell? ⟨mc, 0, none⟩ = some (.map (some mb))) (hM : MapOf Tryz.prog w 3 mb n f) (hn : n < maxLen) (hf : (f (keyN x)).getD (.bool false) = .bool m) :
    Calls Tryz.prog 59 #[.int .i64 x, .pointer (some ⟨mc, 0, none⟩)] w fun r w' => r = .returned (.bool (!m)) ∧ MapOf Tryz.prog w' 3 mb (n + 1) (updF f (keyN x) (.bool false)) ∧ w.grownBy w' (some mb) := by
  have hlook := run_looks hM hx hf
  have K : Maps.Keyed Tryz.prog 3 := Maps.int_keyed Tryz.underlying3
  have hkey := Lib.hid (keyN_of hx)
  have hM' := Lib.hid hM
  clear hM hf
  go_enter Tryz.func59, Tryz.ntmps59
  go_wp2_with (at_mapUpdate; refine wpList_put _ rfl _ _ _ 107 rfl 3 4 K Tryz.underlying107 mb n f rfl hM'.out hn (.int .i64 x) (.bool false) (keyN x) rfl rfl hkey.out ?_; intro w5 hM5 hg5)
  go_ret
  exact ⟨rfl, hM5, hg5⟩
theorem box4' {w wr : World} {v0 v1 v2 v3 : Value} {t : TypeId} {B : Nat} (hB : w.heap.size = B) (h : Below (B + 1) (w.alloc (.cells #[v0, v1, v2, v3] t)) wr) :
    wr.cell? ⟨B, 0, none⟩ = some v0 ∧ wr.cell? ⟨B, 1, none⟩ = some v1 ∧ wr.cell? ⟨B, 2, none⟩ = some v2 ∧ wr.cell? ⟨B, 3, none⟩ = some v3 := by
  subst hB; exact box4 h
set_option maxHeartbeats 3200000 in
set_option maxRecDepth 100000 in
/-- Whether a scheme may be. -/
theorem sc_Check (s : Sc) (v : Value) (w : World) (hv : IsSc w v s) : Calls Tryz.prog 19 #[v] w fun r w' => r = .returned (.bool (chkSc s)) ∧ Below w.heap.size w w' := by
  obtain ⟨a, c, v0, v1, v2, rfl, hl, h64, hr, ht⟩ := hv
  have hbw : Below w.heap.size w (w.alloc (.cells #[.slice a s.all.length c, v0, v1, v2] 27)) := (Below.refl _ _).alloc (Nat.le_refl _) _
  obtain ⟨W1, hW1⟩ : ∃ W, w.alloc (.cells #[.slice a s.all.length c, v0, v1, v2] 27) = W := ⟨_, rfl⟩
  have hz1 : W1.heap.size = w.heap.size + 1 := by rw [← hW1]; simp
  rw [hW1] at hbw
  have hcells : Hid (∀ V, Below (w.heap.size + 1) W1 V → V.cell? ⟨w.heap.size, 0, none⟩ = some (.slice a s.all.length c) ∧ V.cell? ⟨w.heap.size, 1, none⟩ = some v0 ∧ V.cell? ⟨w.heap.size, 2, none⟩ = some v1 ∧ V.cell? ⟨w.heap.size, 3, none⟩ = some v2) := by
    intro V hV
    rw [← hW1] at hV
    exact box4 hV
  have hchk := Lib.hid (ty_Check _ _ W1 (ht.below hbw))
  have hhol : Hid (∀ V, Below w.heap.size w V → Calls Tryz.prog 31 #[.agg #[v0, v1, v2]] V fun r w' => (∃ z, r = .returned z ∧ IntSl w' z (holesC s.ty)) ∧ Below V.heap.size V w') := fun V hV => ty_Holes _ _ V (ht.below hV)
  have hh64 := Lib.hid (holes64 ht)
  have hhl := Lib.hid (holesC_len s.ty)
  obtain ⟨H, hH⟩ : ∃ H, holesC s.ty = H := ⟨_, rfl⟩
  have hT : Hid (chkSc s = (chkT s.ty && inOnce H s.all)) := by unfold Hid chkSc; rw [hH]
  rw [hH] at hhol hh64 hhl
  obtain ⟨L, hL⟩ : ∃ L, s.all = L := ⟨_, rfl⟩
  rw [hL] at hT hl h64 hr hcells hW1 ⊢
  have hr' := Lib.hid hr
  have h64' := Lib.hid h64
  have hbw' := Lib.hid hbw
  have hW1' := Lib.hid hW1
  obtain ⟨m, hm⟩ : ∃ m, chkT s.ty = m := ⟨_, rfl⟩
  rw [hm] at hchk hT
  clear hm hr h64 ht hH hL hbw hW1
  obtain ⟨k0, k1, k2, k3⟩ := hcells.out W1 (Below.refl _ _)
  have hmm := @run_makeMap Tryz.prog
  have hmf : ∀ (fn : Fn) (first cap : Array Value) (w : World), (Instr.makeFunc fn first cap).run Tryz.prog w = .ok (.func fn first cap) w := fun _ _ _ _ => rfl
  go_enter Tryz.func19, Tryz.ntmps19
  go_wp2_with fail
  rw [hW1'.out]
  refine hchk.out.mono ?_
  rintro r V ⟨rfl, hBV⟩
  have hbV := Lib.hid (hbw'.out.trans (hBV.mono (by omega)))
  obtain ⟨k0, k1, k2, k3⟩ := hcells.out V (hBV.mono (by omega))
  have hzV : w.heap.size + 1 ≤ V.heap.size := by have := hBV.size; omega
  cases m
  · go_wp2_with fail
    go_ret
    exact ⟨ret_bool (by rw [hT.out]; rfl), hbV.out⟩
  · obtain ⟨W2, hW2⟩ : ∃ W, (V.alloc (.map #[] 0)).alloc (.cells #[.map (some V.heap.size)] 107) = W := ⟨_, rfl⟩
    have hb2 : Below V.heap.size V W2 := by rw [← hW2]; exact ((Below.refl _ V).alloc (Nat.le_refl _) _).alloc (by simp) _
    have hz2 : W2.heap.size = V.heap.size + 2 := by rw [← hW2]; simp
    have hmap : Hid (∀ U, Below (V.heap.size + 1) W2 U → MapOf Tryz.prog U 3 V.heap.size 0 (fun _ => none)) := by
      intro U hU
      rw [← hW2] at hU
      exact (MapOf.made Tryz.prog V 3).below (B := V.heap.size + 1) (((Below.refl _ (V.alloc (.map #[] 0))).alloc (by simp) _).trans hU) (by omega)
    have hmc : Hid (∀ U, Below (V.heap.size + 2) W2 U → U.heap[V.heap.size + 1]? = some (.cells #[.map (some V.heap.size)] 107 (0, 0))) := by
      intro U hU
      rw [← hW2] at hU
      exact new_block2 (w := V) (o := .map #[] 0) hU
    have hW2' := Lib.hid hW2
    clear hW2
    have hvl1 : w.heap.size < V.heap.size := by omega
    go_wp2_with fail
    rw [hW2'.out]
    refine (hhol.out W2 (hbV.out.trans (hb2.mono (by omega)))).mono ?_
    rintro e V2 ⟨⟨z, rfl, hz⟩, hB2⟩
    obtain ⟨za, zc, rfl⟩ := hz.form
    have hz' := Lib.hid hz.at.2
    have hm0 := Lib.hid (hmap.out V2 (hB2.mono (by omega)))
    have hc0 := Lib.hid (hmc.out V2 (hB2.mono (by omega)))
    have hV2 := Lib.hid (hbV.out.trans ((hb2.mono (by omega)).trans (hB2.mono (by omega))))
    have hzV2 : V.heap.size + 2 ≤ V2.heap.size := by have := hB2.size; omega
    obtain ⟨p0, p1, p2, p3⟩ := hcells.out V2 (hBV.mono (by omega) |>.trans ((hb2.mono (by omega)).trans (hB2.mono (by omega))))
    have p0' := Lib.hid p0
    have hHl : H.length ≤ 2000 := hhl.out
    have K : Maps.Keyed Tryz.prog 3 := Maps.int_keyed Tryz.underlying3
    clear hz hB2 k0 k1 k2 k3 p0 p1 p2 p3 hmm
    go_wp2_with fail
    go_loopw [15] (fun i wr => ∃ (k : Nat) (f : Lit → Option Value), k ≤ H.length ∧ i = .int .i64 k ∧ Hid (MapOf Tryz.prog wr 3 V.heap.size k f) ∧ Hid (∀ n, In64 n → (f (keyN n)).getD (.bool false) = .bool (decide (n ∈ H.take k))) ∧ V2.heap.size ≤ wr.heap.size ∧ Below V.heap.size V2 wr ∧ Keeps V2 wr) (fun i _ => H.length - (intOf i).toNat)
    case atStart => exact ⟨0, _, by omega, rfl, hm0, fun n _ => by simp, Nat.le_refl _, Below.refl _ _, Keeps.of_below (Below.refl _ _)⟩
    case round =>
      obtain ⟨k, f, hk, rfl, hM, hF, hzr, hBr, hKr⟩ := hrel
      have hKr' := Lib.hid hKr
      have hcr : wr.cell? ⟨V.heap.size + 1, 0, none⟩ = some (.map (some V.heap.size)) := hKr _ _ (by have := hc0.out; simp [World.cell?, this])
      have hpr : wr.cell? ⟨w.heap.size, 0, none⟩ = some (.slice a L.length c) := hKr _ _ p0'.out
      by_cases h1 : k < H.length
      · obtain ⟨b, off, rfl, hc⟩ := hz'.out (by rintro rfl; simp at h1)
        have g0 := hKr _ _ (hc k h1)
        have hin := Lib.hid (hh64.out _ (List.getElem_mem h1))
        have hkey := Lib.hid (keyN_of hin.out)
        clear hc hKr
        go_wp2_with (at_mapUpdate; refine wpList_put _ rfl _ _ _ 107 rfl 3 4 K Tryz.underlying107 V.heap.size k f rfl hM.out (by unfold maxLen; omega) (.int .i64 H[k]) (.bool true) (keyN H[k]) rfl rfl hkey.out ?_; intro w5 hM5 hg5)
        go_roundw
        case rel =>
          refine ⟨k + 1, _, by omega, by go_num, hM5, fun n hn => ?_, by have := hg5.size; omega, hBr.grown hg5 (by omega) (fun q e => by cases e; exact Nat.le_refl _), fun a x hx => ?_⟩
          · by_cases e : n = H[k]
            · subst e
              rw [updF_same]
              have : H[k] ∈ H.take (k + 1) := List.mem_of_getElem? (i := k) (by rw [List.getElem?_take, if_pos (by omega), List.getElem?_eq_getElem h1])
              rw [decide_eq_true this]
              rfl
            · rw [updF_other (fun h' => e (keyN_inj h')), hF.out n hn]
              congr 1
              rw [decide_eq_decide, List.take_succ_eq_append_getElem h1, List.mem_append]
              simp [e]
          · have h2 := hKr'.out a x hx
            refine (World.cell?_of_block (hg5.block a.block (cell_block h2) (fun e => ?_))).trans h2
            have e' : a.block = V.heap.size := by simpa using e
            obtain ⟨_, ⟨es, clock, b1, _⟩, _⟩ := hM.out
            rw [← e'] at b1
            simp [World.cell?, b1] at h2
        case measure => simp [intOf]; omega
      · have e : k = H.length := by omega
        subst e
        have hwr := Lib.hid (hV2.out.trans (hBr.mono (by omega)))
        have hcont := Lib.hid (contains_Int a L c 59 #[.pointer (some ⟨V.heap.size + 1, 0, none⟩)] (fun k => !decide (L.getD k 0 ∈ H ∧ L.getD k 0 ∉ L.take k))
          (fun k U => k ≤ L.length ∧ ∃ g, MapOf Tryz.prog U 3 V.heap.size (H.length + k) g ∧ (∀ n, In64 n → (g (keyN n)).getD (.bool false) = .bool (decide (n ∈ H ∧ n ∉ L.take k))) ∧ U.cell? ⟨V.heap.size + 1, 0, none⟩ = some (.map (some V.heap.size)) ∧ V.heap.size + 2 ≤ U.heap.size ∧ Below V.heap.size wr U) wr hl
          (fun k U hU => by
            obtain ⟨_, g, _, _, _, _, hB⟩ := hU
            exact hr'.out.keeps (Keeps.of_below (hwr.out.trans (hB.mono (by omega)))))
          ⟨Nat.zero_le _, f, hM.out, fun n hn => by rw [hF.out n hn]; simp, hcr, by omega, Below.refl _ _⟩
          (fun k hk U hU => by
            obtain ⟨_, g, g1, g2, g3, g4, g5⟩ := hU
            have hx := h64'.out _ (List.getElem_mem hk)
            have ek : L.getD k 0 = L[k] := by simp [hk]
            refine (sc_left (V.heap.size + 1) V.heap.size (H.length + k) g L[k] _ U hx g3 g1 (by unfold maxLen; unfold lenMax at hl; omega) (g2 _ hx)).mono ?_
            rintro e W' ⟨rfl, h1, h2⟩
            refine ⟨by rw [ek], by omega, _, by rw [← Nat.add_assoc]; exact h1, fun n hn => ?_, ?_, by have := h2.size; omega, g5.grown h2 (by omega) (fun q e => by cases e; exact Nat.le_refl _)⟩
            · by_cases e : n = L[k]
              · subst e
                rw [updF_same]
                have : L[k] ∈ L.take (k + 1) := List.mem_of_getElem? (i := k) (by rw [List.getElem?_take, if_pos (by omega), List.getElem?_eq_getElem hk])
                rw [decide_eq_false (fun h => h.2 this)]
                rfl
              · rw [updF_other (fun h' => e (keyN_inj h')), g2 n hn]
                congr 1
                rw [decide_eq_decide, List.take_succ_eq_append_getElem hk, List.mem_append]
                simp [e]
            · have hcb := cell_block g3
              rw [World.cell?_of_block (h2.block _ hcb (fun e => by simp at e))]
              exact g3)
          (enters_of Tryz.func59 (by kernel_rfl) rfl))
        go_wp2_with fail
        refine hcont.out.mono ?_
        rintro e U ⟨rfl, k2, _, _, g, _, _, _, _, hBU⟩
        have hwU := hwr.out.trans (hBU.mono (by omega))
        go_wp2_with fail
        go_ret
        exact ⟨ret_bool (by rw [hT.out, Bool.true_and]; unfold inOnce; simp), hwU⟩
end Go.Proofs.YtnfclcfcpgfajaaGreatDoor

/- The library's DeleteFunc at numbers. -/
namespace Go.Proofs.YtnfclcfcpgfajaaGreatDoor
open Go.RowKit Go.Shelf

theorem idxI_cases {α : Type} (p : α → Bool) : ∀ (l : List α), (idxI p l = -1 ∧ ∀ x ∈ l, p x = false) ∨ ∃ k, ∃ h : k < l.length, idxI p l = (k : Int) ∧ p l[k] = true ∧ ∀ j (hj : j < k), p (l[j]'(by omega)) = false
  | [] => .inl ⟨rfl, by simp⟩
  | e :: r => by
    cases he : p e with
    | true => exact .inr ⟨0, by simp, by simp [idxI, he], by simpa using he, fun j hj => by omega⟩
    | false =>
      rcases idxI_cases p r with ⟨h1, h2⟩ | ⟨k, hk, h1, h2, h3⟩
      · refine .inl ⟨by simp [idxI, he, h1], fun x hx => ?_⟩
        rcases List.mem_cons.1 hx with rfl | hx
        · exact he
        · exact h2 x hx
      · refine .inr ⟨k + 1, by simpa using hk, ?_, by simpa using h2, fun j hj => ?_⟩
        · rw [idxI, he, h1]
          simp
          omega
        · cases j with
          | zero => simpa using he
          | succ j => simpa using h3 j (by omega)
/-- A row under way: the first ones are those kept of the first j, the others are as they were. -/
def KeptI (p : Int → Bool) (l : List Int) (j i : Nat) (cur : Array Value) : Prop :=
  i = ((l.take j).filter fun x => !p x).length ∧ (∀ q (h : q < ((l.take j).filter fun x => !p x).length), cur[q]? = some (.int .i64 ((l.take j).filter fun x => !p x)[q])) ∧ ∀ q (h : q < l.length), j ≤ q → cur[q]? = some (.int .i64 l[q])
theorem KeptI.le {p : Int → Bool} {l : List Int} {j i : Nat} {cur : Array Value} (h : KeptI p l j i cur) : i ≤ j := by
  rw [h.1]
  exact Nat.le_trans (List.length_filter_le _ _) (by rw [List.length_take]; omega)
theorem filter_take_succ {p : Int → Bool} {l : List Int} {j : Nat} (hj : j < l.length) : (l.take (j + 1)).filter (fun x => !p x) = (l.take j).filter (fun x => !p x) ++ (if p l[j] = true then [] else [l[j]]) := by
  rw [List.take_succ_eq_append_getElem hj, List.filter_append]
  congr 1
  cases h : p l[j] <;> simp [h]
theorem KeptI.skip {p : Int → Bool} {l : List Int} {j i : Nat} {cur : Array Value} (h : KeptI p l j i cur) (hj : j < l.length) (hp : p l[j] = true) : KeptI p l (j + 1) i cur := by
  unfold KeptI
  rw [filter_take_succ hj, if_pos hp, List.append_nil]
  exact ⟨h.1, h.2.1, fun q hq hle => h.2.2 q hq (by omega)⟩
theorem KeptI.keep {p : Int → Bool} {l : List Int} {j i : Nat} {cur : Array Value} (h : KeptI p l j i cur) (hj : j < l.length) (hp : p l[j] = false) (hlt : i < j) (hs : l.length ≤ cur.size) : KeptI p l (j + 1) (i + 1) (cur.setIfInBounds i (.int .i64 l[j])) := by
  have hi := h.1
  have hf := filter_take_succ (p := p) hj
  rw [if_neg (by rw [hp]; simp)] at hf
  unfold KeptI
  rw [hf]
  refine ⟨by simp [← hi], fun q hq => ?_, fun q hq hle => ?_⟩
  · rw [Array.getElem?_setIfInBounds]
    by_cases e : i = q
    · subst e
      rw [if_pos rfl, if_pos (by omega)]
      simp [hi]
    · rw [if_neg e]
      have hq' : q < ((l.take j).filter fun x => !p x).length := by simp at hq; omega
      rw [h.2.1 q hq', List.getElem_append_left hq']
  · rw [Array.getElem?_setIfInBounds, if_neg (by omega)]
    exact h.2.2 q hq (by omega)
theorem KeptI.start {p : Int → Bool} {l : List Int} {k : Nat} {cur : Array Value} (hk : k < l.length) (h1 : p l[k] = true) (h2 : ∀ j (hj : j < k), p (l[j]'(by omega)) = false) (hc : ∀ q (h : q < l.length), cur[q]? = some (.int .i64 l[q])) : KeptI p l (k + 1) k cur := by
  have e : (l.take k).filter (fun x => !p x) = l.take k := by
    rw [List.filter_eq_self]
    intro x hx
    obtain ⟨i, hi, rfl⟩ := List.getElem_of_mem hx
    have hi' : i < k := by rw [List.length_take] at hi; omega
    rw [List.getElem_take, h2 i hi']
    rfl
  unfold KeptI
  rw [filter_take_succ hk, if_pos h1, List.append_nil, e]
  refine ⟨by rw [List.length_take]; omega, fun q hq => ?_, fun q hq _ => hc q hq⟩
  rw [List.length_take] at hq
  rw [List.getElem_take]
  exact hc q (by omega)
theorem setCell_block {w : World} {b i : Nat} {cur : Array Value} {e : TypeId} {fz : Nat × Nat} (h : w.heap[b]? = some (.cells cur e fz)) (v : Value) : (w.setCell ⟨b, i, none⟩ v).heap[b]? = some (.cells (cur.setIfInBounds i v) e fz) := by
  simp [World.setCell, Array.getElem?_modify, h]
theorem below_cells {B : Nat} {a : World} (b : Nat) (hb : B ≤ b) : ∀ (vs : List Value) (o : Nat) {w : World}, Below B a w → Below B a (w.setCells b o vs)
  | [], _, _, h => h
  | v :: vs, o, _, h => below_cells b hb vs (o + 1) (h.setCell hb v)
set_option maxHeartbeats 3200000 in
set_option maxRecDepth 100000 in
theorem delete_Int (B0 : Nat) (z : Value) (l : List Int) (g : Nat) (lb : Array Value) (p : Int → Bool) (w : World) (hl : l.length ≤ 100000) (hz : w.ownsRow B0 3 1 z l.length (l.map (Value.int .i64))) (hB0 : B0 ≤ w.heap.size)
    (hp : ∀ x ∈ l, ∀ W, Below B0 w W → Calls Tryz.prog g (#[.int .i64 x] ++ lb) W fun r W' => r = .returned (.bool (p x)) ∧ W' = W) (henter : ∀ args w, (callFunc g args).run Tryz.prog w = .ok (.enter g args) w) :
    Calls Tryz.prog 51 #[z, .func (.func g) #[] lb] w fun r W' => (∃ a c, r = .returned (.slice a (l.filter fun x => !p x).length c) ∧ IntAt W' a (l.filter fun x => !p x) ∧ ∀ y, a = some y → B0 ≤ y.block) ∧ Below B0 w W' := by
  have hrow : ∃ a c, z = .slice a l.length c ∧ IntAt w a l ∧ ∀ y, a = some y → B0 ≤ y.block := by
    obtain ⟨q1, ⟨rfl, q2⟩ | ⟨b, cap, cur, rfl, hbb, hh, _, _, _, htk⟩⟩ := hz
    · exact ⟨none, 0, by rw [q2], fun h => absurd (List.length_eq_zero_iff.1 q2) h, fun y h => by cases h⟩
    · refine ⟨some ⟨b, 0, none⟩, cap, rfl, fun _ => ⟨b, 0, rfl, fun i hi => ?_⟩, fun y h => by cases h; exact hbb⟩
      have hj : (l.map (Value.int .i64))[i]? = some (.int .i64 l[i]) := by simp [hi]
      rw [← htk, List.getElem?_take, if_pos (by omega)] at hj
      simp only [World.cell?, hh, Nat.zero_add]
      simpa using hj
  obtain ⟨a, c, rfl, hat, hblk⟩ := hrow
  have hidx := Lib.hid (index_Int a l c g lb (fun k => p (l.getD k 0)) (fun k U => Below B0 w U ∧ U = w) w (by unfold lenMax; omega) (fun k U hU => by rw [hU.2]; exact hat) ⟨Below.refl _ _, rfl⟩
    (fun k hk U hU => by
      obtain ⟨hU1, rfl⟩ := hU
      have e : l.getD k 0 = l[k] := by simp [hk]
      simp only [e]
      exact (hp _ (List.getElem_mem hk) _ hU1).mono fun r W' ⟨h1, h2⟩ => ⟨h1, by rw [h2]; exact hU1, h2⟩) henter)
  have hp' := Lib.hid hp
  have hat' := Lib.hid hat
  have hz' := Lib.hid hz
  rcases idxI_cases (fun k => p (l.getD k 0)) (List.range l.length) with ⟨e1, hno⟩ | ⟨k, hk, e1, hy, hbef⟩
  · rw [e1] at hidx
    have hT : Hid ((l.filter fun x => !p x) = l) := by
      unfold Hid
      rw [List.filter_eq_self]
      intro x hx
      obtain ⟨i, hi, rfl⟩ := List.getElem_of_mem hx
      have := hno i (by simpa using hi)
      simp only [List.getD_eq_getElem?_getD, List.getElem?_eq_getElem hi, Option.getD_some] at this
      rw [this]
      rfl
    clear hp hat hz hno e1
    go_enter Tryz.func51, Tryz.ntmps51
    go_wp2_with fail
    refine hidx.out.mono ?_
    rintro e W ⟨rfl, _, _, hB, rfl⟩
    go_wp2_with fail
    go_ret
    exact ⟨⟨a, c, by rw [hT.out]; rfl, by rw [hT.out]; exact hat'.out, hblk⟩, hB⟩
  · have hk' : k < l.length := by simpa using hk
    have hy' : p l[k] = true := by simpa [hk'] using hy
    have hb' : ∀ j (hj : j < k), p (l[j]'(by omega)) = false := fun j hj => by
      have := hbef j hj
      have hj' : j < l.length := by omega
      simpa [hj'] using this
    obtain ⟨b, cur, rfl, hbB, hcur, hlc, hsz, htk⟩ : ∃ b cur, a = some ⟨b, 0, none⟩ ∧ B0 ≤ b ∧ w.heap[b]? = some (.cells cur 3 (0, 0)) ∧ l.length ≤ c ∧ cur.size = c ∧ ∀ q (h : q < l.length), cur[q]? = some (.int .i64 l[q]) := by
      obtain ⟨q1, ⟨_, q2⟩ | ⟨b, cap, cur, hv, r1, r2, r3, _, r5, r6⟩⟩ := hz
      · omega
      · simp only [Value.slice.injEq] at hv
        obtain ⟨rfl, _, rfl⟩ := hv
        refine ⟨b, cur, rfl, r1, r2, r3, by omega, fun q hq => ?_⟩
        have hj : (l.map (Value.int .i64))[q]? = some (.int .i64 l[q]) := by simp [hq]
        rw [← r6, List.getElem?_take, if_pos (by omega)] at hj
        simpa using hj
    have hstart := Lib.hid (KeptI.start hk' hy' hb' htk)
    have hcur' := Lib.hid hcur
    rw [e1] at hidx
    clear hp hat hz e1 hk hy hbef hy' hb' htk hcur
    have hne1 : ((k : Int) == -1) = false := beq_eq_false_iff_ne.2 (by omega)
    go_enter Tryz.func51, Tryz.ntmps51
    go_wp2_with fail
    refine hidx.out.mono ?_
    rintro e W ⟨rfl, _, _, hB, hWw⟩
    subst hWw
    go_wp2_with fail
    go_loopw [5, 6] (fun i j wr => ∃ (i' j' : Nat) (cur' : Array Value), i = .int .i64 i' ∧ j = .int .i64 j' ∧ j' ≤ l.length ∧ i' < j' ∧ Hid (wr.heap[b]? = some (.cells cur' 3 (0, 0))) ∧ cur'.size = c ∧ Hid (KeptI p l j' i' cur') ∧ Below B0 W wr) (fun _ j _ => l.length - (intOf j).toNat)
    case atStart => exact ⟨k, k + 1, cur, rfl, by go_num, by omega, by omega, hcur', hsz, hstart, hB⟩
    case round =>
      obtain ⟨i', j', cur', rfl, rfl, hjl, hij, hcu, hcs, hkp, hBr⟩ := hrel
      by_cases h1 : j' < l.length
      · have g0 : wr.cell? ⟨b, j', none⟩ = some (.int .i64 l[j']) := by
          have h2 := hcu.out
          simp only [World.cell?, h2]
          exact hkp.out.2.2 j' h1 (Nat.le_refl _)
        have hil : i' < cur'.size := by omega
        have g1 : wr.cell? ⟨b, i', none⟩ = some cur'[i'] := by
          have h2 := hcu.out
          simp [World.cell?, h2, hil]
        have g2 : wr.frozen? ⟨b, i', none⟩ = false := by
          have h2 := hcu.out
          simp [World.frozen?, h2]
        have hcall := Lib.hid (hp'.out l[j'] (List.getElem_mem h1) wr hBr)
        generalize cur'[i'] = old at g1
        cases h3 : p l[j']
        · rw [h3] at hcall
          have h3' := Lib.hid h3
          clear h3
          go_wp2_with fail
          refine hcall.out.mono ?_
          rintro e w1 ⟨rfl, hw1⟩
          subst hw1
          go_wp2_with fail
          go_roundw
          case rel => exact ⟨i' + 1, j' + 1, cur'.setIfInBounds i' (.int .i64 l[j']), by go_num, by go_num, by omega, by omega, setCell_block hcu.out _, by simpa using hcs, hkp.out.keep h1 h3'.out hij (by omega), hBr.setCell hbB _⟩
          case measure => simp [intOf]; omega
        · rw [h3] at hcall
          have h3' := Lib.hid h3
          clear h3
          go_wp2_with fail
          refine hcall.out.mono ?_
          rintro e w1 ⟨rfl, hw1⟩
          subst hw1
          go_wp2_with fail
          go_roundw
          case rel => exact ⟨i', j' + 1, cur', rfl, by go_num, by omega, by omega, hcu, hcs, hkp.out.skip h1 h3'.out, hBr⟩
          case measure => simp [intOf]; omega
      · obtain rfl : j' = l.length := by omega
        have hcl : ∀ ty, (Builtin.clear_ #[22] ty #[.slice (some ⟨b, i', none⟩) (l.length - i') (c - i')]).run Tryz.prog wr = .ok (.tuple #[]) (wr.setCells b i' (List.replicate (l.length - i') (.int .i64 0))) :=
          fun ty => Lib.run_clear_slice wr _ _ ty (.int .i64 0) Tryz.underlying22 (fun w => by kernel_rfl) rfl rfl b i' _ _ (by omega) (fun t ht => by
            have h2 := hcu.out
            have : i' + t < cur'.size := by omega
            simp [World.cell?, h2, this]) (fun t ht => by
            have h2 := hcu.out
            simp [World.frozen?, h2])
        go_wp2_with fail
        go_ret
        have hF := hkp.out
        unfold KeptI at hF
        rw [List.take_length] at hF
        refine ⟨⟨some ⟨b, 0, none⟩, c, by rw [hF.1]; rfl, fun _ => ⟨b, 0, rfl, fun q hq => ?_⟩, fun y h => by cases h; exact hbB⟩, below_cells b hbB _ _ hBr⟩
        rw [World.cell?_setCells_out b _ _ _ _ (fun _ _ => .inl (by show 0 + q < i'; omega))]
        have h2 := hcu.out
        simp only [World.cell?, h2, Nat.zero_add]
        exact hF.2.1 q hq
end Go.Proofs.YtnfclcfcpgfajaaGreatDoor

/- A scheme's free holes. -/
namespace Go.Proofs.YtnfclcfcpgfajaaGreatDoor
open Go.RowKit Go.Shelf

/-- Numbers in a slice, wherever it lies. -/
def NumS (w : World) (v : Value) (l : List Int) : Prop := ∃ a c, v = .slice a l.length c ∧ IntAt w a l
theorem NumS.below {w W : World} {v : Value} {l : List Int} (h : NumS w v l) (hB : Below w.heap.size w W) : NumS W v l := by
  obtain ⟨a, c, h1, h2⟩ := h
  exact ⟨a, c, h1, h2.keeps (Keeps.of_below hB)⟩
def freeL (s : Sc) : List Int := if chkSc s = true then (holesC s.ty).filter fun n => !decide (n ∈ s.all) else []
set_option maxHeartbeats 800000 in
theorem sc_in (x : Int) (bp : Nat) (a : Option Addr) (L : List Int) (c : Nat) (w : World) (hl : L.length ≤ lenMax) (hc : w.cell? ⟨bp, 0, none⟩ = some (.slice a L.length c)) (hr : IntAt w a L) :
    Calls Tryz.prog 60 #[.int .i64 x, .pointer (some ⟨bp, 0, none⟩)] w fun r W' => r = .returned (.bool (decide (x ∈ L))) ∧ W' = w := by
  have h := Lib.hid (contains_num a L c x w hl hr)
  clear hr
  go_enter Tryz.func60, Tryz.ntmps60
  go_wp2_with fail
  refine h.out.mono ?_
  rintro e W ⟨rfl, rfl⟩
  go_wp2_with fail
  go_ret
  exact ⟨ret_bool rfl, rfl⟩
set_option maxHeartbeats 3200000 in
set_option maxRecDepth 100000 in
theorem sc_Free (s : Sc) (v : Value) (w : World) (hv : IsSc w v s) : Calls Tryz.prog 22 #[v] w fun r w' => (∃ z, r = .returned z ∧ NumS w' z (freeL s)) ∧ Below w.heap.size w w' := by
  have hv0 := hv
  obtain ⟨a, c, v0, v1, v2, rfl, hl, h64, hr, ht⟩ := hv
  have hbw : Below w.heap.size w (w.alloc (.cells #[.slice a s.all.length c, v0, v1, v2] 27)) := (Below.refl _ _).alloc (Nat.le_refl _) _
  obtain ⟨W1, hW1⟩ : ∃ W, w.alloc (.cells #[.slice a s.all.length c, v0, v1, v2] 27) = W := ⟨_, rfl⟩
  have hz1 : W1.heap.size = w.heap.size + 1 := by rw [← hW1]; simp
  rw [hW1] at hbw
  have hcells : Hid (∀ V, Below (w.heap.size + 1) W1 V → V.cell? ⟨w.heap.size, 0, none⟩ = some (.slice a s.all.length c) ∧ V.cell? ⟨w.heap.size, 1, none⟩ = some v0 ∧ V.cell? ⟨w.heap.size, 2, none⟩ = some v1 ∧ V.cell? ⟨w.heap.size, 3, none⟩ = some v2) := by
    intro V hV
    rw [← hW1] at hV
    exact box4 hV
  have hchk := Lib.hid (sc_Check s _ W1 (hv0.below hbw))
  have hhol : Hid (∀ V, Below w.heap.size w V → Calls Tryz.prog 31 #[.agg #[v0, v1, v2]] V fun r w' => (∃ z, r = .returned z ∧ IntSl w' z (holesC s.ty) ∧ w'.ownsRow V.heap.size 3 1 z (holesC s.ty).length ((holesC s.ty).map (Value.int .i64))) ∧ Below V.heap.size V w') := fun V hV => ty_HolesO _ _ V (ht.below hV)
  have hhl := Lib.hid (holesC_len s.ty)
  obtain ⟨H, hH⟩ : ∃ H, holesC s.ty = H := ⟨_, rfl⟩
  obtain ⟨m, hm⟩ : ∃ m, chkSc s = m := ⟨_, rfl⟩
  have hT : Hid (freeL s = if m = true then H.filter fun n => !decide (n ∈ s.all) else []) := by unfold Hid freeL; rw [hH, hm]
  rw [hH] at hhol hhl
  rw [hm] at hchk
  obtain ⟨L, hL⟩ : ∃ L, s.all = L := ⟨_, rfl⟩
  rw [hL] at hT hl h64 hr hcells hW1 hchk ⊢
  have hr' := Lib.hid hr
  have hbw' := Lib.hid hbw
  have hW1' := Lib.hid hW1
  clear hm hr h64 ht hH hL hbw hW1 hv0
  obtain ⟨k0, k1, k2, k3⟩ := hcells.out W1 (Below.refl _ _)
  have hmf : ∀ (fn : Fn) (first cap : Array Value) (w : World), (Instr.makeFunc fn first cap).run Tryz.prog w = .ok (.func fn first cap) w := fun _ _ _ _ => rfl
  go_enter Tryz.func22, Tryz.ntmps22
  go_wp2_with fail
  rw [hW1'.out]
  go_wp2_with fail
  refine hchk.out.mono ?_
  rintro r V ⟨rfl, hBV⟩
  have hbV := Lib.hid (hbw'.out.trans (hBV.mono (by omega)))
  have hBV' := Lib.hid hBV
  clear k0 k1 k2 k3
  obtain ⟨k0, k1, k2, k3⟩ := hcells.out V (hBV.mono (by omega))
  have hzV : w.heap.size + 1 ≤ V.heap.size := by have := hBV.size; omega
  cases m
  · go_wp2_with fail
    go_ret
    exact ⟨⟨.slice none 0 0, rfl, none, 0, by rw [hT.out]; rfl, fun h => by rw [hT.out] at h; exact absurd rfl h⟩, hbV.out⟩
  · go_wp2_with fail
    refine (hhol.out V hbV.out).mono ?_
    rintro e V2 ⟨⟨z, rfl, _, hz⟩, hB2⟩
    have hV2 := Lib.hid (hbV.out.trans (hB2.mono (by omega)))
    have hdel := Lib.hid (delete_Int V.heap.size z H 60 #[.pointer (some ⟨w.heap.size, 0, none⟩)] (fun n => decide (n ∈ L)) V2 (by have := hhl.out; omega) hz hB2.size (fun x _ U hU => by
      have hBU : Below (w.heap.size + 1) W1 U := (hBV'.out.mono (by omega)).trans ((hB2.mono (by omega)).trans (hU.mono (by omega)))
      exact sc_in x w.heap.size a L c U hl (hcells.out U hBU).1 (hr'.out.keeps (Keeps.of_below (hbw'.out.trans (hBU.mono (by omega)))))) (enters_of Tryz.func60 (by kernel_rfl) rfl))
    obtain ⟨za, zc, hzf⟩ : ∃ za zc, z = .slice za H.length zc := by
      obtain ⟨q1, ⟨rfl, q2⟩ | ⟨b, cap, cur, rfl, _⟩⟩ := hz
      · exact ⟨none, 0, by rw [q2]⟩
      · exact ⟨_, _, rfl⟩
    subst hzf
    clear hz hB2 k0 k1 k2 k3
    go_wp2_with fail
    refine hdel.out.mono ?_
    rintro e U ⟨⟨ua, uc, rfl, hu, _⟩, hBU⟩
    have hu' := Lib.hid hu
    have hfin := Lib.hid (hV2.out.trans (hBU.mono (by omega)))
    clear hu hBU
    go_wp2_with fail
    go_ret
    exact ⟨⟨_, rfl, ua, uc, by rw [hT.out]; rfl, by rw [hT.out]; exact hu'.out⟩, hfin.out⟩
end Go.Proofs.YtnfclcfcpgfajaaGreatDoor

/- Rows of schemes: the library's ContainsFunc; the closures within Close. -/
namespace Go.Proofs.YtnfclcfcpgfajaaGreatDoor
open Go.RowKit Go.Shelf

/-- Schemes in a row. -/
def ScAt (w : World) (a : Option Addr) (l : List Sc) : Prop := l ≠ [] → ∃ b off, a = some ⟨b, off, none⟩ ∧ ∀ i (h : i < l.length), ∃ v0 v1 v2 v3, w.cell? ⟨b, off + i * 4, none⟩ = some v0 ∧ w.cell? ⟨b, off + i * 4 + 1, none⟩ = some v1 ∧ w.cell? ⟨b, off + i * 4 + 2, none⟩ = some v2 ∧ w.cell? ⟨b, off + i * 4 + 3, none⟩ = some v3 ∧ IsSc w (.agg #[v0, v1, v2, v3]) l[i]
theorem ScAt.below {w W : World} {a : Option Addr} {l : List Sc} (h : ScAt w a l) (hB : Below w.heap.size w W) : ScAt W a l := fun hne => by
  obtain ⟨b, off, h1, h2⟩ := h hne
  have hk := Keeps.of_below hB
  refine ⟨b, off, h1, fun i hi => ?_⟩
  obtain ⟨v0, v1, v2, v3, g0, g1, g2, g3, g4⟩ := h2 i hi
  exact ⟨v0, v1, v2, v3, hk _ _ g0, hk _ _ g1, hk _ _ g2, hk _ _ g3, g4.below hB⟩
set_option maxHeartbeats 1600000 in
theorem sc_bad (s : Sc) (v : Value) (w : World) (hv : IsSc w v s) : Calls Tryz.prog 49 #[v] w fun r W' => r = .returned (.bool (!chkSc s)) ∧ Below w.heap.size w W' := by
  have hv0 := hv
  obtain ⟨a, c, v0, v1, v2, rfl, _⟩ := hv
  have hbw : Below w.heap.size w (w.alloc (.cells #[.slice a s.all.length c, v0, v1, v2] 27)) := (Below.refl _ _).alloc (Nat.le_refl _) _
  have hchk := Lib.hid (sc_Check s _ _ (hv0.below hbw))
  obtain ⟨k0, k1, k2, k3⟩ := box4 (w := w) (wr := w.alloc (.cells #[.slice a s.all.length c, v0, v1, v2] 27)) (Below.refl _ _)
  have hbw' := Lib.hid hbw
  clear hv0 hbw
  go_enter Tryz.func49, Tryz.ntmps49
  go_wp2_with fail
  refine hchk.out.mono ?_
  rintro e V ⟨rfl, hBV⟩
  go_wp2_with fail
  go_ret
  exact ⟨ret_bool rfl, hbw'.out.trans (hBV.mono (by simp))⟩
set_option maxHeartbeats 1600000 in
theorem index_Sc (a : Option Addr) (l : List Sc) (cap g : Nat) (lb : Array Value) (p : Sc → Bool) (w : World) (hl : l.length ≤ lenMax) (hr : ScAt w a l)
    (hp : ∀ e ∈ l, ∀ v W, Below w.heap.size w W → IsSc W v e → Calls Tryz.prog g (#[v] ++ lb) W fun r W' => r = .returned (.bool (p e)) ∧ Below W.heap.size W W')
    (henter : ∀ args w, (callFunc g args).run Tryz.prog w = .ok (.enter g args) w) :
    Calls Tryz.prog 99 #[.slice a l.length cap, .func (.func g) #[] lb] w fun r w' => r = .returned (.int .i64 (idxI p l)) ∧ Below w.heap.size w w' := by
  unfold lenMax at hl
  have hp' := Lib.hid hp
  have hr' := Lib.hid hr
  clear hp hr
  go_enter Tryz.func99, Tryz.ntmps99
  go_wp2_with fail
  go_loopw [8] (fun i wr => ∃ k : Nat, k ≤ l.length ∧ i = .int .i64 k ∧ Hid (∀ j (hj : j < k) (hl : j < l.length), p l[j] = false) ∧ Below w.heap.size w wr) (fun i _ => l.length - (intOf i).toNat)
  case atStart => exact ⟨0, by omega, rfl, fun j hj => by omega, Below.refl _ _⟩
  case round =>
    obtain ⟨k, hk, rfl, hall, hB⟩ := hrel
    by_cases h1 : k < l.length
    · obtain ⟨b, off, rfl, harg⟩ := (hr'.out.below hB) (by rintro rfl; simp at h1)
      obtain ⟨v0, v1, v2, v3, g0, g1, g2, g3, gs⟩ := harg k h1
      have hcall := Lib.hid (hp'.out _ (List.getElem_mem h1) _ _ hB gs)
      clear harg gs
      cases h3 : p l[k]
      · rw [h3] at hcall
        have h3' := Lib.hid h3
        clear h3
        go_wp2_with fail
        refine hcall.out.mono ?_
        rintro e w1 ⟨rfl, hB1⟩
        have hB1' := hB.trans (hB1.mono hB.size)
        clear hB1
        go_wp2_with fail
        go_roundw
        case rel => exact ⟨k + 1, by omega, by go_num, fun j hj hl => by
          rcases Nat.lt_or_ge j k with h | h
          · exact hall.out j h hl
          · obtain rfl : j = k := by omega
            exact h3'.out, hB1'⟩
        case measure => simp [intOf]; omega
      · rw [h3] at hcall
        have h3' := Lib.hid h3
        clear h3
        go_wp2_with fail
        refine hcall.out.mono ?_
        rintro e w1 ⟨rfl, hB1⟩
        have hB1' := hB.trans (hB1.mono hB.size)
        clear hB1
        go_wp2_with fail
        go_ret
        exact ⟨ret_int (idxI_at h1 (fun j hj => hall.out j hj (by omega)) h3'.out).symm, hB1'⟩
    · go_wp2_with fail
      go_ret
      exact ⟨ret_int (idxI_none fun j hj => hall.out j (by omega) hj).symm, hB⟩
theorem contains_bad (a : Option Addr) (l : List Sc) (cap : Nat) (w : World) (hl : l.length ≤ lenMax) (hr : ScAt w a l) :
    Calls Tryz.prog 50 #[.slice a l.length cap, .func (.func 49) #[] #[]] w fun r w' => r = .returned (.bool (l.any fun s => !chkSc s)) ∧ Below w.heap.size w w' := by
  have h := Lib.hid (index_Sc a l cap 49 #[] (fun s => !chkSc s) w hl hr (fun e _ v W _ hv => sc_bad e v W hv) (enters_of Tryz.func49 (by kernel_rfl) rfl))
  clear hr
  go_enter Tryz.func50, Tryz.ntmps50
  go_wp2_with fail
  refine h.out.mono ?_
  rintro e w1 ⟨rfl, hB⟩
  go_wp2_with fail
  go_ret
  exact ⟨ret_bool (idxI_any _ l), hB⟩
set_option maxHeartbeats 800000 in
/-- The closure within Close: is a number free beside? -/
theorem sc_beside (mc mb n : Nat) (f : Lit → Option Value) (x : Int) (m : Bool) (w : World) (hx : In64 x) (hc : w.cell? ⟨mc, 0, none⟩ = some (.map (some mb))) (hM : MapOf Tryz.prog w 3 mb n f) (hf : (f (keyN x)).getD (.bool false) = .bool m) :
    Calls Tryz.prog 52 #[.int .i64 x, .pointer (some ⟨mc, 0, none⟩)] w fun r w' => r = .returned (.bool m) ∧ w' = w := by
  have hlook := run_looks hM hx hf
  clear hM hf
  go_enter Tryz.func52, Tryz.ntmps52
  go_wp2_with fail
  go_ret
  exact ⟨ret_bool rfl, rfl⟩
end Go.Proofs.YtnfclcfcpgfajaaGreatDoor

/- A result's box of four cells; what Close comes to. -/
namespace Go.Proofs.YtnfclcfcpgfajaaGreatDoor
open Go.RowKit Go.Shelf

theorem results_sc {fn : Func} {t u : Tmp} (h : fn.results = #[.cell t 27, .tmp u]) (tmps : Array Value) (w : World) {b : Nat} {x0 x1 x2 x3 v : Value} (ha : tmps.getD t undef = .pointer (some ⟨b, 0, none⟩)) (hu : tmps.getD u undef = v)
    (h0 : w.cell? ⟨b, 0, none⟩ = some x0) (h1 : w.cell? ⟨b, 1, none⟩ = some x1) (h2 : w.cell? ⟨b, 2, none⟩ = some x2) (h3 : w.cell? ⟨b, 3, none⟩ = some x3) : (results fn tmps).run Tryz.prog w = .ok (.tuple #[.agg #[x0, x1, x2, x3], v]) w := by
  have e2 := Tryz.isAgg27
  have e3 := Tryz.sizeOf27
  have ha' : tmps[t]?.getD undef = .pointer (some ⟨b, 0, none⟩) := by simpa using ha
  have hu' : tmps[u]?.getD undef = v := by simpa using hu
  simp [results, h, ha', hu', asAddr, loadVar, e2, loadCells, loadCellsFrom, Result.andThen, h0, h1, h2, h3, Addr.add, load, Sem.run]
theorem cells4_of {U : World} {b : Nat} {x0 x1 x2 x3 : Value} {t : TypeId} (h : U.heap[b]? = some (.cells #[x0, x1, x2, x3] t (0, 0))) : U.cell? ⟨b, 0, none⟩ = some x0 ∧ U.cell? ⟨b, 1, none⟩ = some x1 ∧ U.cell? ⟨b, 2, none⟩ = some x2 ∧ U.cell? ⟨b, 3, none⟩ = some x3 := by
  simp [World.cell?, h]
/-- A struct's box of four cells, written anew. -/
def World.box4 (w : World) (b : Nat) (x0 x1 x2 x3 : Value) : World := (((w.setCell ⟨b, 0, none⟩ x0).setCell ⟨b, 1, none⟩ x1).setCell ⟨b, 2, none⟩ x2).setCell ⟨b, 3, none⟩ x3
theorem set_box4 {V : World} {b : Nat} {y0 y1 y2 y3 : Value} {t : TypeId} (h : V.heap[b]? = some (.cells #[y0, y1, y2, y3] t (0, 0))) (x0 x1 x2 x3 : Value) :
    ((World.box4 V b x0 x1 x2 x3).cell? ⟨b, 0, none⟩ = some x0 ∧ (World.box4 V b x0 x1 x2 x3).cell? ⟨b, 1, none⟩ = some x1 ∧ (World.box4 V b x0 x1 x2 x3).cell? ⟨b, 2, none⟩ = some x2 ∧ (World.box4 V b x0 x1 x2 x3).cell? ⟨b, 3, none⟩ = some x3) ∧ Below b V (World.box4 V b x0 x1 x2 x3) ∧ (World.box4 V b x0 x1 x2 x3).heap.size = V.heap.size ∧ KeepsBut (fun c => c = b) V (World.box4 V b x0 x1 x2 x3) := by
  have h2 : (World.box4 V b x0 x1 x2 x3).heap[b]? = some (.cells #[x0, x1, x2, x3] t (0, 0)) := by
    simp [World.box4, World.setCell, Array.getElem?_modify, h]
  refine ⟨?_, ?_, ?_, ⟨by simp [World.box4, World.setCell], fun a v hx hv => ?_⟩⟩
  · simp [World.cell?, h2]
  · exact ((((Below.refl b V).setCell (Nat.le_refl _) _).setCell (Nat.le_refl _) _).setCell (Nat.le_refl _) _).setCell (Nat.le_refl _) _
  · simp [World.box4, World.setCell]
  · rw [World.cell?_of_block (show (World.box4 V b x0 x1 x2 x3).heap[a.block]? = V.heap[a.block]? from ?_)]
    · exact hv
    · unfold World.box4
      rw [Below.heap_setCell _ _ _ _ (fun e => hx e), Below.heap_setCell _ _ _ _ (fun e => hx e), Below.heap_setCell _ _ _ _ (fun e => hx e), Below.heap_setCell _ _ _ _ (fun e => hx e)]
/-- What Close comes to. -/
def allFree (bs : List Sc) : List Int := bs.flatMap freeL
def closeO (t : Ty) (bs : List Sc) : Option Sc := if (chkT t && !(bs.any fun s => !chkSc s)) = true then some ⟨(holesC t).filter fun n => !decide (n ∈ allFree bs), applyT [] t⟩ else none
/-- The error's number. -/
def errS : Bool → Int
  | true => 0
  | false => 80
def zeroSc : Sc := ⟨[], zeroT⟩
theorem zeroSc_is (w : World) : IsSc w (.agg #[.slice none 0 0, .string ⟨#[]⟩, .int .i64 0, .slice none 0 0]) zeroSc :=
  ⟨none, 0, _, _, _, rfl, Nat.zero_le _, (fun n h => by cases h), (fun h => absurd rfl h), zeroT_is w⟩
theorem freeL_len (s : Sc) : (freeL s).length ≤ 2000 := by
  unfold freeL
  split
  · exact Nat.le_trans (List.length_filter_le _ _) (holesC_len _)
  · simp
theorem free64 {w : World} {v : Value} {s : Sc} (h : IsSc w v s) : ∀ n ∈ freeL s, In64 n := by
  obtain ⟨_, _, _, _, _, _, _, _, _, ht⟩ := h
  intro n hn
  unfold freeL at hn
  split at hn
  · exact holes64 ht n (List.mem_filter.1 hn).1
  · cases hn
/-- What is known at a call of Close behind its checks. -/
def ClE (w V : World) (v : Value) (t : Ty) : Prop := Below w.heap.size w V ∧ w.heap.size + 2 ≤ V.heap.size ∧ V.heap[w.heap.size + 1]? = some (.cells #[.slice none 0 0, .string ⟨#[]⟩, .int .i64 0, .slice none 0 0] 27 (0, 0))
end Go.Proofs.YtnfclcfcpgfajaaGreatDoor

/- Close. -/
namespace Go.Proofs.YtnfclcfcpgfajaaGreatDoor
open Go.RowKit Go.Shelf

set_option maxHeartbeats 6400000 in
set_option maxRecDepth 100000 in
theorem sc_Close (t : Ty) (bs : List Sc) (v : Value) (ab : Option Addr) (cb : Nat) (w : World) (hv : IsTy w v t) (hb : ScAt w ab bs) (hbl : bs.length ≤ 10000) :
    Calls Tryz.prog 15 #[v, .slice ab bs.length cb] w fun r w' => (∃ u, r = .returned (.tuple #[u, .int .i64 (errS (closeO t bs).isSome)]) ∧ IsSc w' u ((closeO t bs).getD zeroSc)) ∧ Below w.heap.size w w' := by
  obtain ⟨s, n, l⟩ := t
  have hv0 := Lib.hid hv
  obtain ⟨a1, c1, rfl, _, hn, hs, hl, _⟩ := hv.open
  obtain ⟨W1, hW1⟩ : ∃ W, (w.alloc (.cells #[.string s, .int .i64 n, .slice a1 l.length c1] 25)).alloc (.cells #[.slice none 0 0, .string ⟨#[]⟩, .int .i64 0, .slice none 0 0] 27) = W := ⟨_, rfl⟩
  have hb1 : Below w.heap.size w W1 := by rw [← hW1]; exact ((Below.refl _ w).alloc (Nat.le_refl _) _).alloc (by simp) _
  have hz1 : W1.heap.size = w.heap.size + 2 := by rw [← hW1]; simp
  have hcells : Hid (∀ V, Below (w.heap.size + 1) W1 V → V.cell? ⟨w.heap.size, 0, none⟩ = some (.string s) ∧ V.cell? ⟨w.heap.size, 1, none⟩ = some (.int .i64 n) ∧ V.cell? ⟨w.heap.size, 2, none⟩ = some (.slice a1 l.length c1)) := by
    intro V hV
    have g1 : Below (w.heap.size + 1) (w.alloc (.cells #[.string s, .int .i64 n, .slice a1 l.length c1] 25)) W1 := by rw [← hW1]; exact (Below.refl _ _).alloc (by simp) _
    exact box3 (g1.trans hV)
  have hres : Hid (∀ U, Below (w.heap.size + 2) W1 U → U.heap[w.heap.size + 1]? = some (.cells #[.slice none 0 0, .string ⟨#[]⟩, .int .i64 0, .slice none 0 0] 27 (0, 0))) := by
    intro U hU
    rw [← hW1] at hU
    exact new_block2 hU
  have hW1' := Lib.hid hW1
  have hb1' := Lib.hid hb1
  have hchk := Lib.hid (ty_Check (.mk s n l) _ W1 (hv0.out.below hb1))
  have hT : Hid (closeO (.mk s n l) bs = if (chkT (.mk s n l) && !(bs.any fun s => !chkSc s)) = true then some ⟨(holesC (.mk s n l)).filter fun n => !decide (n ∈ allFree bs), applyT [] (.mk s n l)⟩ else none) := rfl
  obtain ⟨m, hm⟩ : ∃ m, chkT (.mk s n l) = m := ⟨_, rfl⟩
  obtain ⟨m2, hm2⟩ : ∃ m, (bs.any fun s => !chkSc s) = m := ⟨_, rfl⟩
  rw [hm, hm2] at hT
  rw [hm] at hchk
  have hbad : Hid (∀ V, Below w.heap.size w V → Calls Tryz.prog 50 #[.slice ab bs.length cb, .func (.func 49) #[] #[]] V fun r w' => r = .returned (.bool m2) ∧ Below V.heap.size V w') := fun V hV => by
    rw [← hm2]
    exact contains_bad ab bs cb V (by unfold lenMax; omega) (hb.below hV)
  have hb' := Lib.hid hb
  obtain ⟨k0, k1, k2⟩ := hcells.out W1 (Below.refl _ _)
  clear hv hm hm2 hW1 hb1 hb
  have hmm := @run_makeMap Tryz.prog
  have hmf : ∀ (fn : Fn) (first cap : Array Value) (w : World), (Instr.makeFunc fn first cap).run Tryz.prog w = .ok (.func fn first cap) w := fun _ _ _ _ => rfl
  go_enter Tryz.func15, Tryz.ntmps15
  go_wp2_with fail
  rw [hW1'.out]
  refine hchk.out.mono ?_
  rintro r V ⟨rfl, hBV⟩
  have hbV := Lib.hid (hb1'.out.trans (hBV.mono (by omega)))
  have hBV' := Lib.hid (hBV.mono (show w.heap.size + 2 ≤ W1.heap.size by omega))
  clear k0 k1 k2
  obtain ⟨k0, k1, k2⟩ := hcells.out V (hBV.mono (by omega))
  have hzV : w.heap.size + 2 ≤ V.heap.size := by have := hBV.size; omega
  have hrV := Lib.hid (hres.out V hBV'.out)
  clear hBV
  cases m
  · obtain ⟨r0, r1, r2, r3⟩ := cells4_of hrV.out
    have rf0 := frozen_of hrV.out 0
    have rf1 := frozen_of hrV.out 1
    have rf2 := frozen_of hrV.out 2
    have rf3 := frozen_of hrV.out 3
    go_wp2_with fail
    have hU := set_box4 hrV.out (.slice none 0 0) (.string ⟨#[]⟩) (.int .i64 0) (.slice none 0 0)
    change bodyPost _ _ _ _ _ (World.box4 V (w.heap.size + 1) (.slice none 0 0) (.string ⟨#[]⟩) (.int .i64 0) (.slice none 0 0))
    generalize World.box4 V (w.heap.size + 1) (.slice none 0 0) (.string ⟨#[]⟩) (.int .i64 0) (.slice none 0 0) = U at hU ⊢
    obtain ⟨⟨u0, u1, u2, u3⟩, hBU, -, hUk⟩ := hU
    clear r0 r1 r2 r3
    refine bodyPost_ret (results_sc rfl _ _ rfl rfl u0 u1 u2 u3) rfl ?_
    exact ⟨⟨_, by rw [hT.out]; rfl, by rw [hT.out]; exact zeroSc_is U⟩, hbV.out.trans (hBU.mono (by omega))⟩
  · go_wp2_with fail
    refine (hbad.out V hbV.out).mono ?_
    rintro r V1 ⟨rfl, hB1⟩
    have hbV1 := Lib.hid (hbV.out.trans (hB1.mono (by omega)))
    have hB1' := Lib.hid (hBV'.out.trans (hB1.mono (by omega)))
    have hzV1 : w.heap.size + 2 ≤ V1.heap.size := by have := hB1.size; omega
    have hrV1 := Lib.hid (hres.out V1 hB1'.out)
    clear k0 k1 k2
    obtain ⟨k0, k1, k2⟩ := hcells.out V1 (hB1'.out.mono (by omega))
    clear hB1
    cases m2
    · -- the checks pass
      obtain ⟨W2, hW2⟩ : ∃ W, (V1.alloc (.map #[] 0)).alloc (.cells #[.map (some V1.heap.size)] 107) = W := ⟨_, rfl⟩
      have hb2 : Below V1.heap.size V1 W2 := by rw [← hW2]; exact ((Below.refl _ V1).alloc (Nat.le_refl _) _).alloc (by simp) _
      have hz2 : W2.heap.size = V1.heap.size + 2 := by rw [← hW2]; simp
      have hmap : Hid (MapOf Tryz.prog W2 3 V1.heap.size 0 (fun _ => none)) := by
        rw [← hW2]
        exact (MapOf.made Tryz.prog V1 3).below (B := V1.heap.size + 1) ((Below.refl _ (V1.alloc (.map #[] 0))).alloc (by simp) _) (by omega)
      have hmc : Hid (W2.cell? ⟨V1.heap.size + 1, 0, none⟩ = some (.map (some V1.heap.size))) := by
        have h := new_block2 (w := V1) (o := .map #[] 0) (U := W2) (t := 107) (vs := #[.map (some V1.heap.size)]) (by rw [hW2]; exact Below.refl _ _)
        unfold Hid
        simp [World.cell?, h]
      have hW2' := Lib.hid hW2
      have hbW2 := Lib.hid (hbV1.out.trans (hb2.mono (by omega)))
      have hBW2 := Lib.hid (hB1'.out.trans (hb2.mono (by omega)))
      have K : Maps.Keyed Tryz.prog 3 := Maps.int_keyed Tryz.underlying3
      clear hW2
      go_wp2_with fail
      rw [hW2'.out]
      clear k0 k1 k2
      go_loopw [25] (fun i wr => ∃ (k nn : Nat) (f : Lit → Option Value), k ≤ bs.length ∧ i = .int .i64 k ∧ nn ≤ k * 2000 ∧ Hid (MapOf Tryz.prog wr 3 V1.heap.size nn f) ∧ Hid (∀ x, In64 x → (f (keyN x)).getD (.bool false) = .bool (decide (x ∈ allFree (bs.take k)))) ∧ W2.heap.size ≤ wr.heap.size ∧ Below V1.heap.size W2 wr ∧ Hid (Keeps W2 wr)) (fun i _ => bs.length - (intOf i).toNat)
      case atStart => exact ⟨0, 0, _, by omega, rfl, by omega, hmap, fun x _ => by simp [allFree], Nat.le_refl _, Below.refl _ _, Keeps.of_below (Below.refl _ _)⟩
      case round =>
        obtain ⟨k, nn, f, hk, rfl, hnn, hM, hF, hzr, hBr, hKr⟩ := hrel
        have hwr := Lib.hid (hbW2.out.trans (hBr.mono (by omega)))
        have hcr : Hid (wr.cell? ⟨V1.heap.size + 1, 0, none⟩ = some (.map (some V1.heap.size))) := hKr.out _ _ hmc.out
        by_cases h1 : k < bs.length
        · obtain ⟨b, off, rfl, harg⟩ := (hb'.out.below hwr.out) (by rintro rfl; simp at h1)
          obtain ⟨v0, v1, v2, v3, g0, g1, g2, g3, gs⟩ := harg k h1
          obtain ⟨a4, c4, a5, c5, rfl, rfl, rfl, rfl⟩ := gs.form
          have h64 := Lib.hid (free64 gs)
          have hfl := Lib.hid (freeL_len bs[k])
          have hfl2 : (freeL bs[k]).length ≤ 2000 := hfl.out
          obtain ⟨U0, hU0⟩ : ∃ U, wr.alloc (.cells #[.slice a4 bs[k].all.length c4, .string bs[k].ty.name, .int .i64 bs[k].ty.n, .slice a5 bs[k].ty.args.length c5] 27) = U := ⟨_, rfl⟩
          have hb0 : Below wr.heap.size wr U0 := by rw [← hU0]; exact (Below.refl _ wr).alloc (Nat.le_refl _) _
          have hz0 : U0.heap.size = wr.heap.size + 1 := by rw [← hU0]; simp
          have hfree := Lib.hid (sc_Free bs[k] _ U0 (gs.below hb0))
          have hFt : Hid (allFree (bs.take (k + 1)) = allFree (bs.take k) ++ freeL bs[k]) := by
            unfold Hid allFree
            rw [List.take_succ_eq_append_getElem h1, List.flatMap_append]
            simp
          have hU0' := Lib.hid hU0
          have hb0' := Lib.hid hb0
          clear harg gs hU0 hb0
          go_wp2_with fail
          rw [hU0'.out]
          refine hfree.out.mono ?_
          rintro e U1 ⟨⟨z, rfl, hz⟩, hBU1⟩
          obtain ⟨za, zc, rfl, hzr'⟩ := hz
          have hz' := Lib.hid hzr'
          have hU1 := Lib.hid (hb0'.out.trans (hBU1.mono (by omega)))
          have hzU1 : wr.heap.size + 1 ≤ U1.heap.size := by have := hBU1.size; omega
          have hM1 := Lib.hid (hM.out.below hU1.out (by omega))
          have hmem : ∀ x, In64 x → (f (keyN x)).getD (.bool false) = .bool (decide (x ∈ allFree (bs.take k) ++ (freeL bs[k]).take 0)) := fun x hx => by rw [hF.out x hx]; simp
          have hmem' := Lib.hid hmem
          have hK1 : Hid (Keeps W2 U1) := fun ad y hy => Keeps.of_below hU1.out _ _ (hKr.out _ _ hy)
          have hBr1 : Hid (Below V1.heap.size W2 U1) := hBr.trans (hU1.out.mono (by omega))
          have hzW1 : W2.heap.size ≤ U1.heap.size := by omega
          clear hzr' hBU1 hmem
          go_wp2_with fail
          go_loopw [32] (fun i wr => ∃ (j mm : Nat) (g : Lit → Option Value), j ≤ (freeL bs[k]).length ∧ i = .int .i64 j ∧ mm ≤ k * 2000 + j ∧ Hid (MapOf Tryz.prog wr 3 V1.heap.size mm g) ∧ Hid (∀ x, In64 x → (g (keyN x)).getD (.bool false) = .bool (decide (x ∈ allFree (bs.take k) ++ (freeL bs[k]).take j))) ∧ U1.heap.size ≤ wr.heap.size ∧ Below V1.heap.size U1 wr ∧ Hid (Keeps U1 wr)) (fun i _ => (freeL bs[k]).length - (intOf i).toNat)
          case atStart => exact ⟨0, nn, f, by omega, rfl, by omega, hM1, hmem', Nat.le_refl _, Below.refl _ _, Keeps.of_below (Below.refl _ _)⟩
          case round =>
            obtain ⟨j, mm, g, hj, rfl, hmm', hMg, hG, hzu, hBu, hKu⟩ := hrel
            have hKu' : Hid (Keeps W2 wr) := fun ad y hy => hKu.out _ _ (hK1.out _ _ hy)
            have hcu : wr.cell? ⟨V1.heap.size + 1, 0, none⟩ = some (.map (some V1.heap.size)) := hKu'.out _ _ hmc.out
            have hBW : Hid (Below V1.heap.size W2 wr) := hBr1.out.trans hBu
            by_cases h2 : j < (freeL bs[k]).length
            · obtain ⟨zb, zo, rfl, hc⟩ := hz'.out (by intro e; rw [e] at h2; simp at h2)
              have g7 := hKu.out _ _ (hc j h2)
              have hin := Lib.hid (h64.out _ (List.getElem_mem h2))
              have hkey := Lib.hid (keyN_of hin.out)
              clear hc
              obtain ⟨x, hx⟩ : ∃ x, (freeL bs[k])[j] = x := ⟨_, rfl⟩
              have hxt : Hid ((freeL bs[k]).take (j + 1) = (freeL bs[k]).take j ++ [x]) := by unfold Hid; rw [List.take_succ_eq_append_getElem h2, hx]
              rw [hx] at g7 hin hkey
              clear hx
              go_wp2_with (at_mapUpdate; refine wpList_put _ rfl _ _ _ 107 rfl 3 4 K Tryz.underlying107 V1.heap.size mm g rfl hMg.out (by have := hfl.out; unfold maxLen; omega) (.int .i64 x) (.bool true) (keyN x) rfl rfl hkey.out ?_; intro w5 hM5 hg5)
              go_roundw
              case rel =>
                refine ⟨j + 1, mm + 1, _, by omega, by go_num, by omega, hM5, fun y hy => ?_, by have := hg5.size; omega, hBu.grown hg5 (by omega) (fun q e => by cases e; exact Nat.le_refl _), fun ad y hy => ?_⟩
                · by_cases e : y = x
                  · subst e
                    rw [updF_same, hxt.out, decide_eq_true (by simp)]
                    rfl
                  · rw [updF_other (fun h' => e (keyN_inj h')), hG.out y hy, hxt.out]
                    congr 1
                    rw [decide_eq_decide]
                    simp [e]
                · have h3 := hKu.out ad y hy
                  refine (World.cell?_of_block (hg5.block ad.block (cell_block h3) (fun e => ?_))).trans h3
                  have e' : ad.block = V1.heap.size := by simpa using e
                  obtain ⟨_, ⟨es, clock, b1, _⟩, _⟩ := hMg.out
                  rw [← e'] at b1
                  simp [World.cell?, b1] at h3
              case measure => simp [intOf]; omega
            · have e : j = (freeL bs[k]).length := by omega
              subst e
              go_wp2_with fail
              go_roundw
              case rel =>
                refine ⟨k + 1, mm, g, by omega, by go_num, by have := hfl.out; omega, hMg, fun y hy => ?_, by omega, hBW.out, hKu'⟩
                rw [hG.out y hy, hFt.out, List.take_length]
              case measure => simp [intOf]; omega
        · have e : k = bs.length := by omega
          subst e
          have hF' : Hid (∀ x, In64 x → (f (keyN x)).getD (.bool false) = .bool (decide (x ∈ allFree bs))) := fun x hx => by
            have := hF.out x hx
            rwa [List.take_length] at this
          have hBwr := Lib.hid (hBW2.out.trans (hBr.mono (by omega)))
          obtain ⟨k0, k1, k2⟩ := hcells.out wr (hBwr.out.mono (by omega))
          have hhol := Lib.hid (ty_HolesO _ _ wr (hv0.out.below hwr.out))
          have hh64 := Lib.hid (holes64 hv0.out)
          have hhl := Lib.hid (holesC_len (.mk s n l))
          obtain ⟨H, hH⟩ : ∃ H, holesC (.mk s n l) = H := ⟨_, rfl⟩
          rw [hH] at hhol hh64 hhl hT
          clear hH
          go_wp2_with fail
          refine hhol.out.mono ?_
          rintro e V3 ⟨⟨z, rfl, _, hz⟩, hB3⟩
          have hM3 := Lib.hid (fun U (hU : Below wr.heap.size V3 U) => hM.out.below (hB3.trans hU) (by omega))
          have hc3 := Lib.hid (fun U (hU : Below wr.heap.size V3 U) => Keeps.of_below (hB3.trans hU) _ _ hcr.out)
          have hB3' := Lib.hid hB3
          have hdel := Lib.hid (delete_Int wr.heap.size z H 52 #[.pointer (some ⟨V1.heap.size + 1, 0, none⟩)] (fun x => decide (x ∈ allFree bs)) V3 (by have := hhl.out; omega) hz hB3.size (fun x hx U hU =>
            sc_beside (V1.heap.size + 1) V1.heap.size nn f x _ U (hh64.out x hx) (hc3.out U hU) (hM3.out U hU) (hF'.out x (hh64.out x hx))) (enters_of Tryz.func52 (by kernel_rfl) rfl))
          obtain ⟨za, zc, hzf⟩ : ∃ za zc, z = .slice za H.length zc := by
            obtain ⟨q1, ⟨rfl, q2⟩ | ⟨b, cap, cur, rfl, _⟩⟩ := hz
            · exact ⟨none, 0, by rw [q2]⟩
            · exact ⟨_, _, rfl⟩
          subst hzf
          clear hz hB3 k0 k1 k2
          go_wp2_with fail
          refine hdel.out.mono ?_
          rintro e V4 ⟨⟨ua, uc, rfl, hua, hub⟩, hB4⟩
          have hw4 := Lib.hid (hwr.out.trans ((hB3'.out.trans hB4).mono (by omega)))
          have hB4' := Lib.hid (hBwr.out.trans ((hB3'.out.trans hB4).mono (by omega)))
          have hua' := Lib.hid hua
          have hub' := Lib.hid hub
          have hz4 : wr.heap.size ≤ V4.heap.size := (hB3'.out.trans hB4).size
          obtain ⟨k0, k1, k2⟩ := hcells.out V4 (hB4'.out.mono (by omega))
          have happ := Lib.hid (ty_ApplyX none 0 [] (.mk s n l) (.agg #[.string s, .int .i64 n, .slice a1 l.length c1]) V4 (fun c => c = w.heap.size + 1) (fun b hb => by show b < V4.heap.size; omega) (Nat.zero_le _) (.inl rfl) (TyX.later (KeepsBut.of_below hw4.out) (fun b hb h => by omega) hv0.out))
          clear hua hub hB4
          go_wp2_with fail
          refine happ.out.mono ?_
          rintro e V5 ⟨u, rfl, hu, hB5⟩
          obtain ⟨xa, xc, rfl⟩ := hu.form
          have hu' := Lib.hid hu
          have hw5 := Lib.hid (hw4.out.trans (hB5.mono (by omega)))
          have hr5 := Lib.hid (hres.out V5 (hB4'.out.trans (hB5.mono (by omega))))
          have hB5' := Lib.hid hB5
          obtain ⟨r0, r1, r2, r3⟩ := cells4_of hr5.out
          have rf0 := frozen_of hr5.out 0
          have rf1 := frozen_of hr5.out 1
          have rf2 := frozen_of hr5.out 2
          have rf3 := frozen_of hr5.out 3
          obtain ⟨T, hTt⟩ : ∃ T, applyT [] (.mk s n l) = T := ⟨_, rfl⟩
          rw [hTt] at hu' hT
          simp only [hTt]
          clear hu hB5 k0 k1 k2 hTt
          generalize T.name = us at hu' ⊢
          generalize T.n = un at hu' ⊢
          generalize T.args.length = um at hu' ⊢
          obtain ⟨F, hF2⟩ : ∃ F, (H.filter fun n => !decide (n ∈ allFree bs)) = F := ⟨_, rfl⟩
          have hFl := Lib.hid (show F.length ≤ lenMax by rw [← hF2]; have := List.length_filter_le (fun n => !decide (n ∈ allFree bs)) H; have := hhl.out; unfold lenMax; omega)
          have hF64 := Lib.hid (show ∀ n ∈ F, In64 n by intro n hn; rw [← hF2] at hn; exact hh64.out n (List.mem_filter.1 hn).1)
          rw [hF2] at hua' hT
          simp only [hF2]
          clear hF2
          go_wp2_with fail
          have hU := set_box4 hr5.out (.slice ua F.length uc) (.string us) (.int .i64 un) (.slice xa um xc)
          change bodyPost _ _ _ _ _ (World.box4 V5 (w.heap.size + 1) (.slice ua F.length uc) (.string us) (.int .i64 un) (.slice xa um xc))
          generalize World.box4 V5 (w.heap.size + 1) (.slice ua F.length uc) (.string us) (.int .i64 un) (.slice xa um xc) = U at hU ⊢
          obtain ⟨⟨u0, u1, u2, u3⟩, hBU, -, hUk⟩ := hU
          clear r0 r1 r2 r3
          refine bodyPost_ret (results_sc rfl _ _ rfl rfl u0 u1 u2 u3) rfl ?_
          refine ⟨⟨_, by rw [hT.out]; rfl, ?_⟩, hw5.out.trans (hBU.mono (by omega))⟩
          rw [hT.out]
          refine ⟨ua, uc, _, _, _, rfl, hFl.out, hF64.out, fun hne => ?_, TyX.later hUk (fun b _ h => h.elim) hu'.out⟩
          obtain ⟨b, off, hab, hat⟩ := hua'.out hne
          have hbb := hub'.out _ hab
          exact ⟨b, off, hab, fun i hi => hUk.2 _ _ (fun e => by have e' : b = w.heap.size + 1 := e; simp only at hbb; omega) (Keeps.of_below hB5'.out _ _ (hat i hi))⟩
    · obtain ⟨r0, r1, r2, r3⟩ := cells4_of hrV1.out
      have rf0 := frozen_of hrV1.out 0
      have rf1 := frozen_of hrV1.out 1
      have rf2 := frozen_of hrV1.out 2
      have rf3 := frozen_of hrV1.out 3
      go_wp2_with fail
      have hU := set_box4 hrV1.out (.slice none 0 0) (.string ⟨#[]⟩) (.int .i64 0) (.slice none 0 0)
      change bodyPost _ _ _ _ _ (World.box4 V1 (w.heap.size + 1) (.slice none 0 0) (.string ⟨#[]⟩) (.int .i64 0) (.slice none 0 0))
      generalize World.box4 V1 (w.heap.size + 1) (.slice none 0 0) (.string ⟨#[]⟩) (.int .i64 0) (.slice none 0 0) = U at hU ⊢
      obtain ⟨⟨u0, u1, u2, u3⟩, hBU, -, hUk⟩ := hU
      clear r0 r1 r2 r3
      refine bodyPost_ret (results_sc rfl _ _ rfl rfl u0 u1 u2 u3) rfl ?_
      exact ⟨⟨_, by rw [hT.out]; rfl, by rw [hT.out]; exact zeroSc_is U⟩, hbV1.out.trans (hBU.mono (by omega))⟩
end Go.Proofs.YtnfclcfcpgfajaaGreatDoor
