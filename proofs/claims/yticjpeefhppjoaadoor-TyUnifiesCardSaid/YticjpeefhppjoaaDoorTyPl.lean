/- Plain laws of types: holes renamed; canonical names; facts of holes that are not there. -/
import Derived.Test.YticjpeefhppjoaaDoorTyL
import Derived.Test.YticjpeefhppjoaaDoorTyJ
import Derived.Test.YticjpeefhppjoaaDoorTyG
namespace Go.Proofs.YticjpeefhppjoaaDoor

/-- A type whose holes have other numbers. -/
def mapH (g : Int → Int) : Ty → Ty
  | .mk s n l => if holeS s = true then .mk ⟨#[]⟩ (g n) [] else .mk s 0 (mapL g l)
where mapL (g : Int → Int) : List Ty → List Ty
  | [] => []
  | e :: r => mapH g e :: mapL g r
theorem mapL_map (g : Int → Int) (l : List Ty) : mapH.mapL g l = l.map (mapH g) := by
  induction l with
  | nil => rfl
  | cons e r ih => simp only [mapH.mapL, List.map_cons, ih]
theorem holeS_nil : holeS ⟨#[]⟩ = true := by rw [holeS_size]; rfl
theorem holeS_eq {s : Str} (h : holeS s = true) : s = ⟨#[]⟩ := by
  rw [holeS_size] at h
  have h0 : s.size = 0 := by simpa using h
  cases s with
  | mk d =>
    have : d.size = 0 := h0
    rw [Array.eq_empty_of_size_eq_zero this]
theorem allL_flat (l : List Ty) : allT.allL l = l.flatMap allT := by
  induction l with
  | nil => rfl
  | cons e r ih => simp only [allT.allL, List.flatMap_cons, ih]
theorem allT_mk (s : Str) (n : Int) (l : List Ty) : allT (.mk s n l) = if holeS s = true then [n] else l.flatMap allT := by
  rw [allT, allL_flat]
theorem cntL_map (f : Ty → Ty) (l : List Ty) (h : ∀ e ∈ l, tcnt (f e) = tcnt e) : tcnt.cntL (l.map f) = tcnt.cntL l := by
  induction l with
  | nil => rfl
  | cons e r ih =>
    simp only [List.map_cons, tcnt.cntL]
    rw [h e (by simp), ih fun x hx => h x (by simp [hx])]
theorem snd_open {s : Str} {n : Int} {l : List Ty} {d : Int} (h : sndT (.mk s n l) d = true) : 0 < d ∧ s.size ≤ 20 ∧ (holeS s = true → 0 ≤ n ∧ l = []) ∧ (holeS s = false → n = 0) ∧ ∀ e ∈ l, sndT e (d - 1) = true := by
  simp only [sndT, Bool.and_eq_true, decide_eq_true_eq, headT, sndT_all, List.all_eq_true] at h
  obtain ⟨⟨h1, h2, h3⟩, h4⟩ := h
  refine ⟨h1, h2, fun hs => ?_, fun hs => ?_, h4⟩
  · rw [holeS_size] at hs
    rw [if_pos (by simpa using hs)] at h3
    simp only [Bool.and_eq_true, decide_eq_true_eq] at h3
    exact ⟨h3.1, List.length_eq_zero_iff.1 h3.2⟩
  · rw [holeS_size] at hs
    rw [if_neg (by simpa using hs)] at h3
    simpa using h3

theorem allT_map (g : Int → Int) : ∀ e : Ty, allT (mapH g e) = (allT e).map g := by
  refine Ty.ind fun s n l ih => ?_
  rw [mapH, allT_mk]
  by_cases h : holeS s = true
  · rw [if_pos h, if_pos h, allT_mk, if_pos holeS_nil]; rfl
  · rw [if_neg h, if_neg h, allT_mk, if_neg h, mapL_map]
    induction l with
    | nil => rfl
    | cons e r ihl =>
      simp only [List.map_cons, List.flatMap_cons, List.map_append]
      rw [ih e (by simp), ihl fun x hx => ih x (by simp [hx])]
theorem mapH_mapH (f g : Int → Int) : ∀ e : Ty, mapH f (mapH g e) = mapH (fun n => f (g n)) e := by
  refine Ty.ind fun s n l ih => ?_
  rw [mapH, mapH]
  by_cases h : holeS s = true
  · rw [if_pos h, if_pos h, mapH, if_pos holeS_nil]
  · rw [if_neg h, if_neg h, mapH, if_neg h, mapL_map, mapL_map, mapL_map, List.map_map]
    congr 1
    exact List.map_congr_left fun e he => ih e he
theorem mapH_congr {f g : Int → Int} : ∀ e : Ty, (∀ n ∈ allT e, f n = g n) → mapH f e = mapH g e := by
  refine Ty.ind fun s n l ih h => ?_
  rw [mapH, mapH]
  rw [allT_mk] at h
  by_cases hs : holeS s = true
  · rw [if_pos hs] at h ⊢
    rw [if_pos hs, h n (by simp)]
  · rw [if_neg hs] at h ⊢
    rw [if_neg hs, mapL_map, mapL_map]
    congr 1
    exact List.map_congr_left fun e he => ih e he fun n hn => h n (List.mem_flatMap.2 ⟨e, he, hn⟩)
theorem mapH_id : ∀ (e : Ty) (d : Int), sndT e d = true → mapH (fun n => n) e = e := by
  refine Ty.ind fun s n l ih d h => ?_
  obtain ⟨_, _, h1, h2, h3⟩ := snd_open h
  rw [mapH]
  by_cases hs : holeS s = true
  · rw [if_pos hs, (h1 hs).2, holeS_eq hs]
  · rw [if_neg hs, h2 (by simpa using hs), mapL_map]
    congr 1
    exact (List.map_congr_left fun e he => ih e he _ (h3 e he)).trans (List.map_id l)
theorem tcnt_map (g : Int → Int) : ∀ (e : Ty) (d : Int), sndT e d = true → tcnt (mapH g e) = tcnt e := by
  refine Ty.ind fun s n l ih d h => ?_
  obtain ⟨_, _, h1, h2, h3⟩ := snd_open h
  rw [mapH]
  by_cases hs : holeS s = true
  · rw [if_pos hs, (h1 hs).2]; rfl
  · rw [if_neg hs, mapL_map]
    simp only [tcnt]
    rw [cntL_map _ _ fun e he => ih e he _ (h3 e he)]
theorem headT_hole {n : Int} (h : 0 ≤ n) : headT ⟨#[]⟩ n 0 = true := by
  have : ByteArray.size (⟨#[]⟩ : Str) = 0 := rfl
  simp [headT, this, h]
theorem sndT_hole {n d : Int} (h : 0 ≤ n) (hd : 0 < d) : sndT (.mk ⟨#[]⟩ n []) d = true := by
  simp [sndT, headT_hole h, hd, sndT.sndL]
theorem sndT_map (g : Int → Int) : ∀ (e : Ty) (d : Int), sndT e d = true → (∀ n ∈ allT e, 0 ≤ g n) → sndT (mapH g e) d = true := by
  refine Ty.ind fun s n l ih d h hg => ?_
  obtain ⟨h0, hz, h1, h2, h3⟩ := snd_open h
  rw [mapH]
  rw [allT_mk] at hg
  by_cases hs : holeS s = true
  · rw [if_pos hs] at hg ⊢
    exact sndT_hole (hg n (by simp)) h0
  · rw [if_neg hs] at hg ⊢
    have hn := h2 (by simpa using hs)
    subst hn
    rw [mapL_map]
    simp only [sndT, Bool.and_eq_true, sndT_all, List.all_eq_true] at h ⊢
    refine ⟨⟨h.1.1, by rw [List.length_map]; exact h.1.2⟩, fun e he => ?_⟩
    obtain ⟨x, hx, rfl⟩ := List.mem_map.1 he
    exact ih x hx _ (h3 x hx) fun n hn => hg n (List.mem_flatMap.2 ⟨x, hx, hn⟩)
theorem chk_snd {e : Ty} (h : chkT e = true) : sndT e 60 = true := by simp only [chkT, Bool.and_eq_true] at h; exact h.2
theorem chkT_map {g : Int → Int} {e : Ty} (h : chkT e = true) (hg : ∀ n ∈ allT e, 0 ≤ g n) : chkT (mapH g e) = true := by
  have hs := chk_snd h
  simp only [chkT, Bool.and_eq_true, decide_eq_true_eq] at h ⊢
  exact ⟨by rw [tcnt_map g e 60 hs]; exact h.1, sndT_map g e 60 hs hg⟩
theorem all_nonneg : ∀ (e : Ty) (d : Int), sndT e d = true → ∀ n ∈ allT e, 0 ≤ n := by
  refine Ty.ind fun s n l ih d h m hm => ?_
  obtain ⟨h0, hz, h1, h2, h3⟩ := snd_open h
  rw [allT_mk] at hm
  by_cases hs : holeS s = true
  · rw [if_pos hs] at hm; simp at hm; subst hm; exact (h1 hs).1
  · rw [if_neg hs] at hm
    obtain ⟨e, he, hm⟩ := List.mem_flatMap.1 hm
    exact ih e he _ (h3 e he) m hm
/-- Facts that tell other holes of holes. -/
theorem putT_map {L : List Fa} {g : Int → Int} : ∀ (e : Ty), (∀ n ∈ allT e, (fa? L n).getD (.mk ⟨#[]⟩ n []) = .mk ⟨#[]⟩ (g n) []) → putT L e = mapH g e := by
  refine Ty.ind fun s n l ih h => ?_
  rw [putT, mapH]
  rw [allT_mk] at h
  by_cases hs : holeS s = true
  · rw [if_pos hs] at h ⊢
    rw [if_pos hs, h n (by simp)]
  · rw [if_neg hs] at h ⊢
    rw [if_neg hs, putL_map, mapL_map]
    congr 1
    exact List.map_congr_left fun e he => ih e he fun n hn => h n (List.mem_flatMap.2 ⟨e, he, hn⟩)
theorem allT_put (L : List Fa) : ∀ e : Ty, allT (putT L e) = (allT e).flatMap fun n => allT ((fa? L n).getD (.mk ⟨#[]⟩ n [])) := by
  refine Ty.ind fun s n l ih => ?_
  rw [putT, allT_mk]
  by_cases h : holeS s = true
  · rw [if_pos h, if_pos h]; simp
  · rw [if_neg h, if_neg h, allT_mk, if_neg h, putL_map]
    induction l with
    | nil => rfl
    | cons e r ihl =>
      simp only [List.map_cons, List.flatMap_cons, List.flatMap_append]
      rw [ih e (by simp), ihl fun x hx => ih x (by simp [hx])]

theorem addI_in (m : List Int) (a x : Int) (h : x ∈ addI m a) : x ∈ m ∨ x = a := by
  unfold addI at h
  split at h
  · exact .inl h
  · rcases List.mem_append.1 h with h | h
    · exact .inl h
    · exact .inr (List.mem_singleton.1 h)
theorem onceL_map {g : Int → Int} (l : List Int) (hg : ∀ x ∈ l, ∀ y ∈ l, g x = g y → x = y) : onceL (l.map g) = (onceL l).map g := by
  have h : ∀ (r m : List Int), (∀ x ∈ r ++ m, ∀ y ∈ r ++ m, g x = g y → x = y) → (r.map g).foldl addI (m.map g) = (r.foldl addI m).map g := by
    intro r
    induction r with
    | nil => intro m _; rfl
    | cons a r ih =>
      intro m hm
      simp only [List.map_cons, List.foldl_cons]
      have e : addI (m.map g) (g a) = (addI m a).map g := by
        unfold addI
        by_cases ha : a ∈ m
        · rw [if_pos ha, if_pos (List.mem_map.2 ⟨a, ha, rfl⟩)]
        · rw [if_neg ha, if_neg (fun h => by
            obtain ⟨b, hb, e⟩ := List.mem_map.1 h
            have := hm b (by simp [hb]) a (by simp) e
            subst this
            exact ha hb)]
          simp
      rw [e]
      have mv : ∀ x, x ∈ r ++ addI m a → x ∈ a :: r ++ m := fun x hx => by
        rcases List.mem_append.1 hx with h | h
        · exact List.mem_append.2 (.inl (List.mem_cons_of_mem _ h))
        · rcases addI_in _ _ _ h with h | h
          · exact List.mem_append.2 (.inr h)
          · exact List.mem_append.2 (.inl (by rw [h]; simp))
      exact ih _ fun x hx y hy => hm x (mv x hx) y (mv y hy)
  have := h l [] (by simpa using hg)
  simpa [onceL] using this

theorem fa_canon (H : List Int) (n : Int) : fa? (canonF H) n = if n ∈ H then some (.mk ⟨#[]⟩ (H.idxOf n : Nat) []) else none := by
  have h : ∀ (H : List Int) (f : Nat → Int), fa? (H.mapIdx fun i m => (⟨m, .mk ⟨#[]⟩ (f i) []⟩ : Fa)) n = if n ∈ H then some (.mk ⟨#[]⟩ (f (H.idxOf n)) []) else none := by
    intro H
    induction H with
    | nil => intro f; rfl
    | cons a r ih =>
      intro f
      rw [List.mapIdx_cons]
      simp only [fa?]
      by_cases e : a = n
      · subst e; simp
      · rw [if_neg e, ih fun i => f (i + 1)]
        have e' : ¬ n = a := fun h => e h.symm
        simp [e', List.idxOf_cons, show (a == n) = false from by simpa using e]
  exact h H (fun i => (i : Int))
theorem canon_map {e : Ty} (h : chkT e = true) : canonT e = mapH (fun n => ((onceL (allT e)).idxOf n : Nat)) e := by
  rw [canonT, if_pos h, holes_fold]
  refine putT_map e fun n hn => ?_
  rw [fa_canon, if_pos (by show n ∈ onceL (allT e); rw [onceL_mem]; exact hn)]
  rfl
theorem idxOf_inj {H : List Int} {x y : Int} (hx : x ∈ H) (hy : y ∈ H) (h : H.idxOf x = H.idxOf y) : x = y := by
  have h1 := List.getElem_idxOf (List.idxOf_lt_length_iff.2 hx)
  have h2 := List.getElem_idxOf (List.idxOf_lt_length_iff.2 hy)
  rw [← h1, ← h2]
  congr 1
theorem idxOf_map {g : Int → Int} {H : List Int} {x : Int} (hx : x ∈ H) (hg : ∀ a ∈ H, ∀ b ∈ H, g a = g b → a = b) : (H.map g).idxOf (g x) = H.idxOf x := by
  induction H with
  | nil => simp at hx
  | cons a r ih =>
    by_cases e : a = x
    · subst e; simp
    · have hx' : x ∈ r := by rcases List.mem_cons.1 hx with h | h; · exact absurd h.symm e
                             · exact h
      have e2 : ¬ g a = g x := fun h => e (hg a (by simp) x hx h)
      rw [List.map_cons, List.idxOf_cons, List.idxOf_cons]
      rw [show ((g a == g x) = false) from by simpa using e2, show ((a == x) = false) from by simpa using e]
      simp only [cond_false]
      rw [ih hx' fun p hp q hq => hg p (by simp [hp]) q (by simp [hq])]
/-- The names by first places do not hang on which numbers there were. -/
theorem canon_of_map {g : Int → Int} {e : Ty} (h : chkT e = true) (h0 : ∀ n ∈ allT e, 0 ≤ g n) (hg : ∀ x ∈ allT e, ∀ y ∈ allT e, g x = g y → x = y) : canonT (mapH g e) = canonT e := by
  rw [canon_map (chkT_map h h0), canon_map h, mapH_mapH]
  refine mapH_congr e fun n hn => ?_
  rw [allT_map, onceL_map _ hg]
  rw [idxOf_map ((onceL_mem _ _).2 hn) fun a ha b hb => hg a ((onceL_mem _ _).1 ha) b ((onceL_mem _ _).1 hb)]
theorem canon_canon {e : Ty} (h : chkT e = true) : canonT (canonT e) = canonT e := by
  have h1 := canon_map h
  rw [h1, canon_of_map h (fun n _ => by omega) fun x hx y hy hxy => idxOf_inj ((onceL_mem _ _).2 hx) ((onceL_mem _ _).2 hy) (by omega), h1]
theorem chk_canon {e : Ty} (h : chkT e = true) : chkT (canonT e) = true := by rw [canon_map h]; exact chkT_map h fun n _ => by omega
theorem holesC_once {e : Ty} (h : chkT e = true) : holesC e = onceL (allT e) := by rw [holesC, if_pos h, holes_fold]; rfl
theorem holes_canon {e : Ty} (h : chkT e = true) : holesC (canonT e) = (holesC e).map fun n => (((holesC e).idxOf n : Nat) : Int) := by
  rw [holesC_once (chk_canon h), canon_map h, allT_map, onceL_map _ fun x hx y hy hxy => idxOf_inj ((onceL_mem _ _).2 hx) ((onceL_mem _ _).2 hy) (by omega), holesC_once h]
theorem idxOf_get {H : List Int} (hn : H.Nodup) (i : Nat) (hi : i < H.length) : H.idxOf H[i] = i := by
  have h1 : H.idxOf H[i] < H.length := List.idxOf_lt_length_iff.2 (List.getElem_mem hi)
  have h2 := List.getElem_idxOf h1
  exact (List.getElem_inj hn).1 h2
theorem holes_canon_get {e : Ty} (h : chkT e = true) (i : Nat) (hi : i < (holesC (canonT e)).length) : (holesC (canonT e))[i] = (i : Int) := by
  have hl : i < (holesC e).length := by rw [holes_canon h, List.length_map] at hi; exact hi
  have hn : (holesC e).Nodup := by rw [holesC_once h]; exact onceL_nodup _
  simp only [holes_canon h, List.getElem_map]
  rw [idxOf_get hn i hl]
/-- Facts that number holes anew, each its own. -/
def turnF (by' : Int) (H : List Int) : List Fa := H.mapIdx fun i n => ⟨n, .mk ⟨#[]⟩ (by' + H.length - i) []⟩
theorem fa_turn (by' : Int) (H : List Int) (n : Int) : fa? (turnF by' H) n = if n ∈ H then some (.mk ⟨#[]⟩ (by' + H.length - (H.idxOf n : Nat)) []) else none := by
  have h : ∀ (H : List Int) (f : Nat → Int), fa? (H.mapIdx fun i m => (⟨m, .mk ⟨#[]⟩ (f i) []⟩ : Fa)) n = if n ∈ H then some (.mk ⟨#[]⟩ (f (H.idxOf n)) []) else none := by
    intro H
    induction H with
    | nil => intro f; rfl
    | cons a r ih =>
      intro f
      rw [List.mapIdx_cons]
      simp only [fa?]
      by_cases e : a = n
      · subst e; simp
      · rw [if_neg e, ih fun i => f (i + 1)]
        have e' : ¬ n = a := fun h => e h.symm
        simp [e', List.idxOf_cons, show (a == n) = false from by simpa using e]
  exact h H fun i => by' + H.length - i
theorem names_turn {e : Ty} {by' : Int} (h : chkT e = true) (hb : 0 ≤ by') : canonT (applyT (turnF by' (holesC e)) e) = canonT e := by
  have hgood : ((chkT e && (turnF by' (holesC e)).all goodF) = true) := by
    rw [h, Bool.true_and, List.all_eq_true]
    intro f hf
    obtain ⟨i, hi, rfl⟩ := List.mem_mapIdx.1 hf
    have hp : ∀ m ∈ holesC e, 0 ≤ m := fun m hm => by
      rw [holesC_once h, onceL_mem] at hm
      exact all_nonneg e 60 (chk_snd h) _ hm
    have hn : 0 ≤ (holesC e)[i] := hp _ (List.getElem_mem hi)
    simp only [goodF, Bool.and_eq_true, decide_eq_true_eq]
    refine ⟨?_, hn⟩
    simp only [chkT, Bool.and_eq_true, decide_eq_true_eq]
    exact ⟨by simp [tcnt, tcnt.cntL], sndT_hole (by omega) (by omega)⟩
  rw [applyT, if_pos hgood]
  have hm : putT (turnF by' (holesC e)) e = mapH (fun n => by' + (holesC e).length - ((holesC e).idxOf n : Nat)) e := putT_map e fun n hn => by
    rw [fa_turn, if_pos (by rw [holesC_once h, onceL_mem]; exact hn)]
    rfl
  rw [hm]
  refine canon_of_map h (fun n hn => ?_) fun x hx y hy hxy => ?_
  · have := List.idxOf_lt_length_iff.2 (show n ∈ holesC e by rw [holesC_once h, onceL_mem]; exact hn)
    omega
  · exact idxOf_inj (H := holesC e) (by rw [holesC_once h, onceL_mem]; exact hx) (by rw [holesC_once h, onceL_mem]; exact hy) (by omega)

/-- A fact of a hole that is not there does nothing. -/
theorem idle_put {e b : Ty} {n d : Int} (h : sndT e d = true) (hn : n ∉ allT e) : putT [⟨n, b⟩] e = e := by
  rw [putT_map (g := fun n => n) e fun m hm => by
    simp only [fa?]
    rw [if_neg (fun (q : n = m) => hn (q ▸ hm))]
    rfl]
  exact mapH_id e d h
/-- A fact that a hole is itself does nothing. -/
theorem idle_self {e : Ty} {n d : Int} (h : sndT e d = true) : putT [⟨n, .mk ⟨#[]⟩ n []⟩] e = e := by
  rw [putT_map (g := fun n => n) e fun m hm => by
    simp only [fa?]
    by_cases q : n = m
    · rw [if_pos q, ← q]; rfl
    · rw [if_neg q]; rfl]
  exact mapH_id e d h
theorem idle_gone {e b : Ty} {n : Int} (hb : n ∉ allT b) : n ∉ allT (putT [⟨n, b⟩] e) := by
  rw [allT_put]
  intro h
  obtain ⟨m, _, hm2⟩ := List.mem_flatMap.1 h
  simp only [fa?] at hm2
  by_cases q : n = m
  · rw [if_pos q] at hm2; exact hb hm2
  · rw [if_neg q] at hm2
    simp only [Option.getD_none, allT_mk, holeS_nil, if_true, List.mem_singleton] at hm2
    exact q hm2
end Go.Proofs.YticjpeefhppjoaaDoor
