/- What the laws of unifying want. -/
import Derived.Test.YticjpeefhppjoaaDoorTyTl
namespace Go.Proofs.YticjpeefhppjoaaDoor
open Go.RowKit

theorem sndT_mono : ∀ (e : Ty) (d k : Int), sndT e d = true → d ≤ k → sndT e k = true := by
  refine Ty.ind fun s n l ih d k h hk => ?_
  simp only [sndT, Bool.and_eq_true, decide_eq_true_eq, sndT_all, List.all_eq_true] at h ⊢
  exact ⟨⟨by omega, h.1.2⟩, fun e he => ih e he _ _ (h.2 e he) (by omega)⟩
theorem chk_arg {s : Str} {n : Int} {l : List Ty} (h : chkT (.mk s n l) = true) : ∀ e ∈ l, chkT e = true := by
  intro e he
  have h1 := chk_snd h
  have h2 := chk_cnt h
  obtain ⟨_, _, _, _, h3⟩ := snd_open h1
  have := tcntL_mem he
  simp only [tcnt] at h2
  simp only [chkT, Bool.and_eq_true, decide_eq_true_eq]
  exact ⟨by omega, sndT_mono e _ _ (h3 e he) (by omega)⟩
theorem MguOf.holds {E : (Int → Ty) → Prop} {si : Int → Ty} {K : List Int} (h : MguOf E si K) : E si := by
  obtain ⟨L, rho, _, hs, _, _, hE, _⟩ := h.facts
  exact (hE si).1 hs.sat
theorem mgu_id : MguOf (fun _ => True) holeT [] :=
  ⟨⟨[], fun _ => 0, fun n t h => by simp [fa?] at h, fun n => rfl, fun n t h => by simp [fa?] at h, fun n t h => by simp [fa?] at h, fun th => ⟨fun _ => trivial, fun _ n t h => by simp [fa?] at h⟩, fun n => by simp [fa?]⟩, List.Pairwise.nil⟩
/-- What unifying answers. -/
structure Ans (a b : Ty) (r : Option (List Fa)) : Prop where
  uni : ∃ fuel, UniP fuel a b r
  sem : (r = none ∧ ∀ th, sub th a ≠ sub th b) ∨ ∃ si K, MguOf (fun th => sub th a = sub th b) si K ∧ (∀ n ∈ K, n ∈ allT a ++ allT b) ∧ r = toldF si K
theorem ans_exists {a b : Ty} (ha : chkT a = true) (hb : chkT b = true) (h64 : ∀ m ∈ allT a ++ allT b, In64 m) : ∃ r, Ans a b r := by
  obtain ⟨fuel, r, h1, h2⟩ := uni_sem ha hb h64
  exact ⟨r, ⟨fuel, h1⟩, h2⟩
/-- Two pairs that the same makes one have one answer. -/
theorem Ans.same {a b c d : Ty} {r q : Option (List Fa)} (h : Ans a b r) (k : Ans c d q) (he : ∀ th, sub th a = sub th b ↔ sub th c = sub th d) : r = q := by
  rcases h.sem with ⟨h1, h2⟩ | ⟨si, K, h1, _, h3⟩
  · rcases k.sem with ⟨k1, _⟩ | ⟨ti, J, k1, _⟩
    · rw [h1, k1]
    · exact absurd ((he ti).2 k1.holds) (h2 ti)
  · rcases k.sem with ⟨_, k2⟩ | ⟨ti, J, k1, _, k3⟩
    · exact absurd ((he si).1 h1.holds) (k2 si)
    · obtain ⟨e1, e2⟩ := h1.unique k1 he
      rw [h3, k3, e1, e2]
theorem Ans.self {a : Ty} {r : Option (List Fa)} (h : Ans a a r) : r = some [] := by
  rcases h.sem with ⟨_, h2⟩ | ⟨si, K, h1, _, h3⟩
  · exact absurd rfl (h2 holeT)
  · obtain ⟨_, e2⟩ := h1.unique mgu_id fun th => ⟨fun _ => trivial, fun _ => rfl⟩
    rw [h3, e2]
    rfl
theorem toldF_len (si : Int → Ty) (K : List Int) : ((toldF si K).getD []).length ≤ K.length := by
  unfold toldF
  split <;> simp
theorem rising_nodup {K : List Int} (h : K.Pairwise (· < ·)) : K.Nodup := h.imp fun h e => by omega
theorem Ans.len {a b : Ty} (ha : chkT a = true) (hb : chkT b = true) {r : Option (List Fa)} (h : Ans a b r) : (r.getD []).length ≤ 4000 := by
  rcases h.sem with ⟨h1, _⟩ | ⟨si, K, h1, h2, h3⟩
  · rw [h1]; simp
  · rw [h3]
    have e1 := toldF_len si K
    have e2 := nodup_len K (allT a ++ allT b) (rising_nodup h1.rising) h2
    have e3 := allT_len a
    have e4 := allT_len b
    have e5 := chk_cnt ha
    have e6 := chk_cnt hb
    simp only [List.length_append] at e2
    omega
theorem all_in64 {w : World} {v : Value} {e : Ty} {X : Nat → Prop} (h : TyX X w v e) : ∀ m ∈ allT e, In64 m := by
  intro m hm
  have := holes_in64 e [] h (by simp) m
  rw [holes_fold] at this
  exact this ((onceL_mem _ _).2 hm)
/-- The same argument behind two types changes nothing. -/
theorem sub_pair {th : Int → Ty} {s : Str} (hs : holeS s = false) (a b c : Ty) : sub th (.mk s 0 [a, c]) = sub th (.mk s 0 [b, c]) ↔ sub th a = sub th b := by
  rw [sub_mk, sub_mk, if_neg (by rw [hs]; simp), if_neg (by rw [hs]; simp)]
  constructor
  · intro h
    injection h with _ _ h
    simp at h
    exact h
  · intro h
    simp [h]
end Go.Proofs.YticjpeefhppjoaaDoor
