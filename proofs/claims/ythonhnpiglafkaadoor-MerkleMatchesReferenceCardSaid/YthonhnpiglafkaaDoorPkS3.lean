/-
  Hash trees: the sources of leaves and nodes.
-/
import Derived.Test.YthonhnpiglafkaaDoorPkS2
import Derived.Test.YthonhnpiglafkaaDoorCards
import Derived.Test.YthonhnpiglafkaaDoorTie
set_option linter.unusedSimpArgs false
set_option linter.unusedVariables false
namespace Go.Proofs.YthonhnpiglafkaaDoor
open Go Go.AL

theorem opA_call {C : Cx} {ops : Array Oper} {i : Nat} {o : Oper} {K : Env → Hp → Prop} {env : Env} {H : Hp} {f : FuncId} {xs xs' : List AV} {r : AV} {H' : Hp} (ho : ops[i]? = some o) (hg : o.guard = none) (hs : stepOp C.P C.G o.op o.type env H = .call f xs) (hd : dstOK C.nt o.dst = true)
    (hargs : callArgs C.raw f xs = xs') (hc : ∀ R : AV → Hp → Prop,R r H' → ACall C.P C.G f xs' H R) (hK : K (env.put o.dst r) H') : opA C ops false i K env H := by
  unfold opA
  rw [ho]
  simp only [hg,wantedA,aOp1,hs,sOp,hargs]
  exact ⟨hd,hc _ hK⟩

theorem more_ne {L : Nat → Bool} {i k : Nat} (h : k ≠ i) : more L i k = L k := by simp [more,h]
theorem more_eq {L : Nat → Bool} {i : Nat} : more L i i = true := by simp [more]
theorem more_t {L : Nat → Bool} {i k : Nat} (h : L k = true) : more L i k = true := by simp [more,h]
def hdD (d : List By) : By := if d = [] then zeroD else nth d 0
def hdB (l : List By) : By := if l = [] then [] else nth l 0
theorem hdD_len {d : List By} (h : ∀ x ∈ d,x.length = 32) : (hdD d).length = 32 := by
  unfold hdD
  by_cases e : d = []
  · rw [if_pos e]; rfl
  · rw [if_neg e]
    have : d.length ≠ 0 := fun x => e (List.eq_nil_of_length_eq_zero x)
    exact h _ (nth_mem (by omega))
theorem hdB_len {l : List By} (h : Short l) : (hdB l).length ≤ 800000 := by
  unfold hdB
  by_cases e : l = []
  · rw [if_pos e]; simp
  · rw [if_neg e]
    have : l.length ≠ 0 := fun x => e (List.eq_nil_of_length_eq_zero x)
    exact h 0 (by omega)

section walks
variable {G : Globs}
theorem sourceD_spec (N : List By) (H : Hp) (R : AV → Hp → Prop) (h : R (.clo 71 [] [.ptr H.n 0]) (H.new (.cells [.p (.sl false 32 (pl db N))]))) : ACall Tryd.prog G 49 [.p (.sl false 32 (pl db N))] H R := by
  refine ACall.of_run (raw := []) Tryd.func49 rfl Tryd.ntmps49 (by simp) fun hbel => ?_
  (repeat refine .z rfl ?_); refine .text ?_; simp (disch:=first|exact dsc|fail) only [go_sem,seval]
  (repeat refine .z rfl ?_); refine .text ?_; simp (disch:=first|exact dsc|fail) only [go_sem,seval]
  (repeat refine .z rfl ?_); refine .retKeep Tryd.func49 (by rw [Tryd.results49]) (by simp (disch:=first|exact dsc|fail) only [go_sem,seval]; rfl) ?_; (try simp (disch:=first|exact dsc|fail) only [go_sem,seval])
  exact h
theorem sourceB_spec (N : List By) (H : Hp) (R : AV → Hp → Prop) (h : R (.clo 70 [] [.ptr H.n 0]) (H.new (.cells [.p (.sl false 1 (pl bs N))]))) : ACall Tryd.prog G 48 [.p (.sl false 1 (pl bs N))] H R := by
  refine ACall.of_run (raw := []) Tryd.func48 rfl Tryd.ntmps48 (by simp) fun hbel => ?_
  (repeat refine .z rfl ?_); refine .text ?_; simp (disch:=first|exact dsc|fail) only [go_sem,seval]
  (repeat refine .z rfl ?_); refine .text ?_; simp (disch:=first|exact dsc|fail) only [go_sem,seval]
  (repeat refine .z rfl ?_); refine .retKeep Tryd.func48 (by rw [Tryd.results48]) (by simp (disch:=first|exact dsc|fail) only [go_sem,seval]; rfl) ?_; (try simp (disch:=first|exact dsc|fail) only [go_sem,seval])
  exact h

set_option maxRecDepth 20000 in
set_option maxHeartbeats 8000000 in
theorem nextD_spec (N : List By) (hl : N.length ≤ 100000) (hN : ∀ d ∈ N,d.length = 32) (b : Nat) (H : Hp) (hb : H.f b = some (.cells [.p (.sl false 32 (pl db N))])) (R : AV → Hp → Prop)
    (h : R (.tup [.p (.agg (pl b8 (hdD N))),.p (bo (!N.isEmpty))]) (H.set b (.cells [.p (.sl false 32 (pl db (N.drop 1)))]))) :
    ACall Tryd.prog G 71 [.ptr b 0] H R := by
  have hlt := Hp.lt hb
  refine ACall.of_run (raw := []) Tryd.func71 rfl Tryd.ntmps71 (by simp) fun hbel => ?_
  (repeat refine .z rfl ?_); refine .text ?_; simp (disch:=first|exact dsc|fail) only [go_sem,seval]
  (repeat refine .z rfl ?_); refine .text ?_; simp (disch:=first|exact dsc|fail) only [go_sem,seval,hb]
  by_cases e : N = []
  · subst e
    have hset : H.set b (.cells [.p (.sl false 32 (pl db []))]) = H := Hp.ext (fun c => by
      by_cases hc : c = b
      · subst hc; rw [f_set_eq rfl hlt]; exact hb.symm
      · rw [f_set_ne' hc]) rfl
    have hz : hdD [] = zeroD := rfl
    have hz2 : zeroD.length = 32 := rfl
    rw [show List.drop 1 ([] : List By) = [] from rfl,hset,hz] at h
    (repeat refine .z rfl ?_); refine .ifF (by simp (disch:=first|exact dsc|fail) only [go_sem,seval]) ?_
    (repeat refine .z rfl ?_); refine .text ?_; simp (disch:=first|exact dsc|fail) only [go_sem,seval,hz2]
    (repeat refine .z rfl ?_); refine .rt Tryd.func71 (by rw [Tryd.results71]) (hR := ?_); simp (disch:=first|exact dsc|fail) only [go_sem,seval]
    exact h
  · have hne : N.length ≠ 0 := fun x => e (List.eq_nil_of_length_eq_zero x)
    have d : decide ((0 : Int) < (N.length : Int)) = true := by simp only [decide_eq_true_eq]; omega
    have hz2 : zeroD.length = 32 := rfl
    have hem : (!N.isEmpty) = true := by cases N with | nil => exact absurd rfl e | cons a b => rfl
    have hh : hdD N = nth N 0 := if_neg e
    have hn2 : (nth N 0).length = 32 := hN _ (nth_mem (by omega))
    rw [hem,hh] at h
    (repeat refine .z rfl ?_); refine .ifT (by simp (disch:=first|exact dsc|fail) only [go_sem,seval,d]) ?_
    generalize hw : nth N 0 = x at hn2 h
    have hset : H.set b (.cells [.p (.sl false 32 (pl db N))]) = H := Hp.ext (fun c => by
      by_cases hc : c = b
      · subst hc; rw [f_set_eq rfl hlt]; exact hb.symm
      · rw [f_set_ne' hc]) rfl
    (repeat refine .z rfl ?_)
    refine .openInv (fun L env' H' => env' 0 = .ptr b 0 ∧ env' 1 = .ptr H.n 0 ∧ (L 0 = true → env' 6 = .p (.sl false 32 (pl db N))) ∧ (L 1 = true → env' 7 = .ip 32 (pl db N) 0 0) ∧ (L 2 = true → env' 8 = .p (.agg (pl b8 x))) ∧ (L 3 = true → env' 9 = .p (.sl false 32 (pl db N))) ∧ (L 4 = true → env' 10 = .p (.sl false 32 (pl db (N.drop 1)))) ∧ (L 6 = true → env' 2 = .p (bo true)) ∧ (L 1 = true → L 0 = true) ∧ (L 2 = true → L 1 = true) ∧ (L 4 = true → L 3 = true) ∧ (L 5 = true → L 0 = true ∧ L 1 = true ∧ L 2 = true) ∧ (L 6 = true → L 0 = true ∧ L 1 = true ∧ L 2 = true ∧ L 5 = true) ∧ (L 7 = true → L 0 = true ∧ L 1 = true ∧ L 2 = true ∧ L 3 = true ∧ L 4 = true ∧ L 5 = true ∧ L 6 = true) ∧ H' = ((H.set b (if L 7 then .cells [.p (.sl false 32 (pl db (N.drop 1)))] else .cells [.p (.sl false 32 (pl db N))])).new (if L 5 then .cells (cl b8 x) else .cells (cl b8 zeroD)))) follows (by kernel_rfl) ?_ ?_ ?_
    · exact ⟨(by simp (disch:=first|exact dsc|fail) only [go_sem,seval,hw,cells_db,aggOf_db hn2,hn2,hz2,hset,hb]),(by simp (disch:=first|exact dsc|fail) only [go_sem,seval,hw,cells_db,aggOf_db hn2,hn2,hz2,hset,hb]),(fun h => by cases h),(fun h => by cases h),(fun h => by cases h),(fun h => by cases h),(fun h => by cases h),(fun h => by cases h),(fun h => by cases h),(fun h => by cases h),(fun h => by cases h),(fun h => by cases h),(fun h => by cases h),(fun h => by cases h),(by first | rfl | (simp only [Bool.false_eq_true,if_false]; first | rfl | (simp (disch:=first|exact dsc|fail) only [go_sem,seval,hw,cells_db,aggOf_db hn2,hn2,hz2,hset,hb] <;> rfl)))⟩
    · intro i o L env' H' ho hL hall hI
      obtain ⟨f0,f1,g0,g1,g2,g3,g4,g6,m1,m2,m4,m5,m6,m7,rfl⟩ := hI
      rcases i with _ | _ | _ | _ | _ | _ | _ | _ | i
      · cases ho
        have n1 : L 1 = false := Bool.eq_false_iff.2 fun e => by (have := m1 e; simp [hL] at this)
        have n5 : L 5 = false := Bool.eq_false_iff.2 fun e => by (have := m5 e; simp [hL] at this)
        have n6 : L 6 = false := Bool.eq_false_iff.2 fun e => by (have := m6 e; simp [hL] at this)
        have n7 : L 7 = false := Bool.eq_false_iff.2 fun e => by (have := m7 e; simp [hL] at this)
        refine opA_val (.p (.sl false 32 (pl db N))) rfl rfl (by simp (disch:=first|exact dsc|fail) only [go_sem,seval,reduceIte,Bool.false_eq_true,if_false,if_true,f0,f1,n1,n5,n6,n7,hL,hw,cells_db,aggOf_db hn2,hn2,hz2,hset,hb] <;> rfl) rfl ?_
        exact ⟨(by (try simp (disch:=first|exact dsc|fail) only [go_sem,seval]); exact f0),(by (try simp (disch:=first|exact dsc|fail) only [go_sem,seval]); exact f1),(fun _ => by simp (disch:=first|exact dsc|fail) only [go_sem,seval]),(fun q => by (rw [more_ne (by decide)] at q); (try simp (disch:=first|exact dsc|fail) only [go_sem,seval]); exact g1 q),(fun q => by (rw [more_ne (by decide)] at q); (try simp (disch:=first|exact dsc|fail) only [go_sem,seval]); exact g2 q),(fun q => by (rw [more_ne (by decide)] at q); (try simp (disch:=first|exact dsc|fail) only [go_sem,seval]); exact g3 q),(fun q => by (rw [more_ne (by decide)] at q); (try simp (disch:=first|exact dsc|fail) only [go_sem,seval]); exact g4 q),(fun q => by (rw [more_ne (by decide)] at q); (try simp (disch:=first|exact dsc|fail) only [go_sem,seval]); exact g6 q),(fun q => by (rw [more_ne (by decide)] at q); exact more_t (m1 q)),(fun q => by (rw [more_ne (by decide)] at q); exact more_t (m2 q)),(fun q => by (rw [more_ne (by decide)] at q); exact more_t (m4 q)),(fun q => by (rw [more_ne (by decide)] at q); obtain ⟨q0,q1,q2⟩ := m5 q; exact ⟨more_t q0,more_t q1,more_t q2⟩),(fun q => by (rw [more_ne (by decide)] at q); obtain ⟨q0,q1,q2,q5⟩ := m6 q; exact ⟨more_t q0,more_t q1,more_t q2,more_t q5⟩),(fun q => by (rw [more_ne (by decide)] at q); obtain ⟨q0,q1,q2,q3,q4,q5,q6⟩ := m7 q; exact ⟨more_t q0,more_t q1,more_t q2,more_t q3,more_t q4,more_t q5,more_t q6⟩),(by (have e5 : more L 0 5 = L 5 := more_ne (by decide)); (have e7 : more L 0 7 = L 7 := more_ne (by decide)); (try simp only [e5,e7,n5,n7]); first | done | rfl | (simp only [e5,e7,n5,n7,if_true,if_false,Bool.false_eq_true]; first | done | rfl | (simp (disch:=first|exact dsc|fail) only [go_sem,seval,e5,e7,n5,n7,hw,cells_db,aggOf_db hn2,hn2,hz2,hset,hb] <;> rfl)))⟩
      · cases ho
        have h0 : L 0 = true := hall ⟨0,.data⟩ (by simp) rfl
        have d0 := g0 h0
        have n2 : L 2 = false := Bool.eq_false_iff.2 fun e => by (have := m2 e; simp [hL] at this)
        have n5 : L 5 = false := Bool.eq_false_iff.2 fun e => by (have := m5 e; simp [hL] at this)
        have n6 : L 6 = false := Bool.eq_false_iff.2 fun e => by (have := m6 e; simp [hL] at this)
        have n7 : L 7 = false := Bool.eq_false_iff.2 fun e => by (have := m7 e; simp [hL] at this)
        refine opA_val (.ip 32 (pl db N) 0 0) rfl rfl (by simp (disch:=first|exact dsc|fail) only [go_sem,seval,reduceIte,Bool.false_eq_true,if_false,if_true,f0,f1,d0,h0,n2,n5,n6,n7,hL,hw,cells_db,aggOf_db hn2,hn2,hz2,hset,hb] <;> rfl) rfl ?_
        exact ⟨(by (try simp (disch:=first|exact dsc|fail) only [go_sem,seval]); exact f0),(by (try simp (disch:=first|exact dsc|fail) only [go_sem,seval]); exact f1),(fun q => by (rw [more_ne (by decide)] at q); (try simp (disch:=first|exact dsc|fail) only [go_sem,seval]); exact g0 q),(fun _ => by simp (disch:=first|exact dsc|fail) only [go_sem,seval]),(fun q => by (rw [more_ne (by decide)] at q); (try simp (disch:=first|exact dsc|fail) only [go_sem,seval]); exact g2 q),(fun q => by (rw [more_ne (by decide)] at q); (try simp (disch:=first|exact dsc|fail) only [go_sem,seval]); exact g3 q),(fun q => by (rw [more_ne (by decide)] at q); (try simp (disch:=first|exact dsc|fail) only [go_sem,seval]); exact g4 q),(fun q => by (rw [more_ne (by decide)] at q); (try simp (disch:=first|exact dsc|fail) only [go_sem,seval]); exact g6 q),(fun _ => more_t h0),(fun q => by (rw [more_ne (by decide)] at q); exact more_t (m2 q)),(fun q => by (rw [more_ne (by decide)] at q); exact more_t (m4 q)),(fun q => by (rw [more_ne (by decide)] at q); obtain ⟨q0,q1,q2⟩ := m5 q; exact ⟨more_t q0,more_t q1,more_t q2⟩),(fun q => by (rw [more_ne (by decide)] at q); obtain ⟨q0,q1,q2,q5⟩ := m6 q; exact ⟨more_t q0,more_t q1,more_t q2,more_t q5⟩),(fun q => by (rw [more_ne (by decide)] at q); obtain ⟨q0,q1,q2,q3,q4,q5,q6⟩ := m7 q; exact ⟨more_t q0,more_t q1,more_t q2,more_t q3,more_t q4,more_t q5,more_t q6⟩),(by (have e5 : more L 1 5 = L 5 := more_ne (by decide)); (have e7 : more L 1 7 = L 7 := more_ne (by decide)); (try simp only [e5,e7,n5,n7]); first | done | rfl | (simp only [e5,e7,n5,n7,if_true,if_false,Bool.false_eq_true]; first | done | rfl | (simp (disch:=first|exact dsc|fail) only [go_sem,seval,e5,e7,n5,n7,hw,cells_db,aggOf_db hn2,hn2,hz2,hset,hb] <;> rfl)))⟩
      · cases ho
        have h1 : L 1 = true := hall ⟨1,.data⟩ (by simp) rfl
        have d1 := g1 h1
        have n5 : L 5 = false := Bool.eq_false_iff.2 fun e => by (have := m5 e; simp [hL] at this)
        have n6 : L 6 = false := Bool.eq_false_iff.2 fun e => by (have := m6 e; simp [hL] at this)
        have n7 : L 7 = false := Bool.eq_false_iff.2 fun e => by (have := m7 e; simp [hL] at this)
        refine opA_val (.p (.agg (pl b8 x))) rfl rfl (by simp (disch:=first|exact dsc|fail) only [go_sem,seval,reduceIte,Bool.false_eq_true,if_false,if_true,f0,f1,d1,h1,n5,n6,n7,hL,hw,cells_db,aggOf_db hn2,hn2,hz2,hset,hb] <;> rfl) rfl ?_
        exact ⟨(by (try simp (disch:=first|exact dsc|fail) only [go_sem,seval]); exact f0),(by (try simp (disch:=first|exact dsc|fail) only [go_sem,seval]); exact f1),(fun q => by (rw [more_ne (by decide)] at q); (try simp (disch:=first|exact dsc|fail) only [go_sem,seval]); exact g0 q),(fun q => by (rw [more_ne (by decide)] at q); (try simp (disch:=first|exact dsc|fail) only [go_sem,seval]); exact g1 q),(fun _ => by simp (disch:=first|exact dsc|fail) only [go_sem,seval]),(fun q => by (rw [more_ne (by decide)] at q); (try simp (disch:=first|exact dsc|fail) only [go_sem,seval]); exact g3 q),(fun q => by (rw [more_ne (by decide)] at q); (try simp (disch:=first|exact dsc|fail) only [go_sem,seval]); exact g4 q),(fun q => by (rw [more_ne (by decide)] at q); (try simp (disch:=first|exact dsc|fail) only [go_sem,seval]); exact g6 q),(fun q => by (rw [more_ne (by decide)] at q); exact more_t (m1 q)),(fun _ => more_t h1),(fun q => by (rw [more_ne (by decide)] at q); exact more_t (m4 q)),(fun q => by (rw [more_ne (by decide)] at q); obtain ⟨q0,q1,q2⟩ := m5 q; exact ⟨more_t q0,more_t q1,more_t q2⟩),(fun q => by (rw [more_ne (by decide)] at q); obtain ⟨q0,q1,q2,q5⟩ := m6 q; exact ⟨more_t q0,more_t q1,more_t q2,more_t q5⟩),(fun q => by (rw [more_ne (by decide)] at q); obtain ⟨q0,q1,q2,q3,q4,q5,q6⟩ := m7 q; exact ⟨more_t q0,more_t q1,more_t q2,more_t q3,more_t q4,more_t q5,more_t q6⟩),(by (have e5 : more L 2 5 = L 5 := more_ne (by decide)); (have e7 : more L 2 7 = L 7 := more_ne (by decide)); (try simp only [e5,e7,n5,n7]); first | done | rfl | (simp only [e5,e7,n5,n7,if_true,if_false,Bool.false_eq_true]; first | done | rfl | (simp (disch:=first|exact dsc|fail) only [go_sem,seval,e5,e7,n5,n7,hw,cells_db,aggOf_db hn2,hn2,hz2,hset,hb] <;> rfl)))⟩
      · cases ho
        have n4 : L 4 = false := Bool.eq_false_iff.2 fun e => by (have := m4 e; simp [hL] at this)
        have n7 : L 7 = false := Bool.eq_false_iff.2 fun e => by (have := m7 e; simp [hL] at this)
        refine opA_val (.p (.sl false 32 (pl db N))) rfl rfl (by simp (disch:=first|exact dsc|fail) only [go_sem,seval,reduceIte,Bool.false_eq_true,if_false,if_true,f0,f1,n4,n7,hL,hw,cells_db,aggOf_db hn2,hn2,hz2,hset,hb] <;> rfl) rfl ?_
        exact ⟨(by (try simp (disch:=first|exact dsc|fail) only [go_sem,seval]); exact f0),(by (try simp (disch:=first|exact dsc|fail) only [go_sem,seval]); exact f1),(fun q => by (rw [more_ne (by decide)] at q); (try simp (disch:=first|exact dsc|fail) only [go_sem,seval]); exact g0 q),(fun q => by (rw [more_ne (by decide)] at q); (try simp (disch:=first|exact dsc|fail) only [go_sem,seval]); exact g1 q),(fun q => by (rw [more_ne (by decide)] at q); (try simp (disch:=first|exact dsc|fail) only [go_sem,seval]); exact g2 q),(fun _ => by simp (disch:=first|exact dsc|fail) only [go_sem,seval]),(fun q => by (rw [more_ne (by decide)] at q); (try simp (disch:=first|exact dsc|fail) only [go_sem,seval]); exact g4 q),(fun q => by (rw [more_ne (by decide)] at q); (try simp (disch:=first|exact dsc|fail) only [go_sem,seval]); exact g6 q),(fun q => by (rw [more_ne (by decide)] at q); exact more_t (m1 q)),(fun q => by (rw [more_ne (by decide)] at q); exact more_t (m2 q)),(fun q => by (rw [more_ne (by decide)] at q); exact more_t (m4 q)),(fun q => by (rw [more_ne (by decide)] at q); obtain ⟨q0,q1,q2⟩ := m5 q; exact ⟨more_t q0,more_t q1,more_t q2⟩),(fun q => by (rw [more_ne (by decide)] at q); obtain ⟨q0,q1,q2,q5⟩ := m6 q; exact ⟨more_t q0,more_t q1,more_t q2,more_t q5⟩),(fun q => by (rw [more_ne (by decide)] at q); obtain ⟨q0,q1,q2,q3,q4,q5,q6⟩ := m7 q; exact ⟨more_t q0,more_t q1,more_t q2,more_t q3,more_t q4,more_t q5,more_t q6⟩),(by (have e5 : more L 3 5 = L 5 := more_ne (by decide)); (have e7 : more L 3 7 = L 7 := more_ne (by decide)); (try simp only [e5,e7,n7]); first | done | rfl | (simp only [e5,e7,n7,if_true,if_false,Bool.false_eq_true]; first | done | rfl | (simp (disch:=first|exact dsc|fail) only [go_sem,seval,e5,e7,n7,hw,cells_db,aggOf_db hn2,hn2,hz2,hset,hb] <;> rfl)))⟩
      · cases ho
        have h3 : L 3 = true := hall ⟨3,.data⟩ (by simp) rfl
        have d3 := g3 h3
        have n7 : L 7 = false := Bool.eq_false_iff.2 fun e => by (have := m7 e; simp [hL] at this)
        refine opA_val (.p (.sl false 32 (pl db (N.drop 1)))) rfl rfl (by simp (disch:=first|exact dsc|fail) only [go_sem,seval,reduceIte,Bool.false_eq_true,if_false,if_true,f0,f1,d3,h3,n7,hL,hw,cells_db,aggOf_db hn2,hn2,hz2,hset,hb] <;> rfl) rfl ?_
        exact ⟨(by (try simp (disch:=first|exact dsc|fail) only [go_sem,seval]); exact f0),(by (try simp (disch:=first|exact dsc|fail) only [go_sem,seval]); exact f1),(fun q => by (rw [more_ne (by decide)] at q); (try simp (disch:=first|exact dsc|fail) only [go_sem,seval]); exact g0 q),(fun q => by (rw [more_ne (by decide)] at q); (try simp (disch:=first|exact dsc|fail) only [go_sem,seval]); exact g1 q),(fun q => by (rw [more_ne (by decide)] at q); (try simp (disch:=first|exact dsc|fail) only [go_sem,seval]); exact g2 q),(fun q => by (rw [more_ne (by decide)] at q); (try simp (disch:=first|exact dsc|fail) only [go_sem,seval]); exact g3 q),(fun _ => by simp (disch:=first|exact dsc|fail) only [go_sem,seval]),(fun q => by (rw [more_ne (by decide)] at q); (try simp (disch:=first|exact dsc|fail) only [go_sem,seval]); exact g6 q),(fun q => by (rw [more_ne (by decide)] at q); exact more_t (m1 q)),(fun q => by (rw [more_ne (by decide)] at q); exact more_t (m2 q)),(fun _ => more_t h3),(fun q => by (rw [more_ne (by decide)] at q); obtain ⟨q0,q1,q2⟩ := m5 q; exact ⟨more_t q0,more_t q1,more_t q2⟩),(fun q => by (rw [more_ne (by decide)] at q); obtain ⟨q0,q1,q2,q5⟩ := m6 q; exact ⟨more_t q0,more_t q1,more_t q2,more_t q5⟩),(fun q => by (rw [more_ne (by decide)] at q); obtain ⟨q0,q1,q2,q3,q4,q5,q6⟩ := m7 q; exact ⟨more_t q0,more_t q1,more_t q2,more_t q3,more_t q4,more_t q5,more_t q6⟩),(by (have e5 : more L 4 5 = L 5 := more_ne (by decide)); (have e7 : more L 4 7 = L 7 := more_ne (by decide)); (try simp only [e5,e7,n7]); first | done | rfl | (simp only [e5,e7,n7,if_true,if_false,Bool.false_eq_true]; first | done | rfl | (simp (disch:=first|exact dsc|fail) only [go_sem,seval,e5,e7,n7,hw,cells_db,aggOf_db hn2,hn2,hz2,hset,hb] <;> rfl)))⟩
      · cases ho
        have h2 : L 2 = true := hall ⟨2,.data⟩ (by simp) rfl
        have d2 := g2 h2
        have h0 : L 0 = true := hall ⟨0,.phase⟩ (by simp) rfl
        have d0 := g0 h0
        have h1 : L 1 = true := hall ⟨1,.phase⟩ (by simp) rfl
        have d1 := g1 h1
        have n6 : L 6 = false := Bool.eq_false_iff.2 fun e => by (have := m6 e; simp [hL] at this)
        have n7 : L 7 = false := Bool.eq_false_iff.2 fun e => by (have := m7 e; simp [hL] at this)
        refine opA_unit rfl rfl (by simp (disch:=first|exact dsc|fail) only [go_sem,seval,reduceIte,Bool.false_eq_true,if_false,if_true,f0,f1,d0,d1,d2,h0,h1,h2,n6,n7,hL,hw,cells_db,aggOf_db hn2,hn2,hz2,hset,hb] <;> rfl) rfl ?_
        exact ⟨(by (try simp (disch:=first|exact dsc|fail) only [go_sem,seval]); exact f0),(by (try simp (disch:=first|exact dsc|fail) only [go_sem,seval]); exact f1),(fun q => by (rw [more_ne (by decide)] at q); (try simp (disch:=first|exact dsc|fail) only [go_sem,seval]); exact g0 q),(fun q => by (rw [more_ne (by decide)] at q); (try simp (disch:=first|exact dsc|fail) only [go_sem,seval]); exact g1 q),(fun q => by (rw [more_ne (by decide)] at q); (try simp (disch:=first|exact dsc|fail) only [go_sem,seval]); exact g2 q),(fun q => by (rw [more_ne (by decide)] at q); (try simp (disch:=first|exact dsc|fail) only [go_sem,seval]); exact g3 q),(fun q => by (rw [more_ne (by decide)] at q); (try simp (disch:=first|exact dsc|fail) only [go_sem,seval]); exact g4 q),(fun q => by (rw [more_ne (by decide)] at q); (try simp (disch:=first|exact dsc|fail) only [go_sem,seval]); exact g6 q),(fun q => by (rw [more_ne (by decide)] at q); exact more_t (m1 q)),(fun q => by (rw [more_ne (by decide)] at q); exact more_t (m2 q)),(fun q => by (rw [more_ne (by decide)] at q); exact more_t (m4 q)),(fun _ => ⟨more_t h0,more_t h1,more_t h2⟩),(fun q => by (rw [more_ne (by decide)] at q); obtain ⟨q0,q1,q2,q5⟩ := m6 q; exact ⟨more_t q0,more_t q1,more_t q2,more_t q5⟩),(fun q => by (rw [more_ne (by decide)] at q); obtain ⟨q0,q1,q2,q3,q4,q5,q6⟩ := m7 q; exact ⟨more_t q0,more_t q1,more_t q2,more_t q3,more_t q4,more_t q5,more_t q6⟩),(by (have e5 : more L 5 5 = true := more_eq); (have e7 : more L 5 7 = L 7 := more_ne (by decide)); (try simp only [e5,e7,n7,hL]); first | done | rfl | (simp only [e5,e7,n7,hL,if_true,if_false,Bool.false_eq_true]; first | done | rfl | (simp (disch:=first|exact dsc|fail) only [go_sem,seval,e5,e7,n7,hL,hw,cells_db,aggOf_db hn2,hn2,hz2,hset,hb] <;> rfl)))⟩
      · cases ho
        have h5 : L 5 = true := hall ⟨5,.chain⟩ (by simp) rfl
        have h0 : L 0 = true := hall ⟨0,.phase⟩ (by simp) rfl
        have d0 := g0 h0
        have h1 : L 1 = true := hall ⟨1,.phase⟩ (by simp) rfl
        have d1 := g1 h1
        have h2 : L 2 = true := hall ⟨2,.phase⟩ (by simp) rfl
        have d2 := g2 h2
        have n7 : L 7 = false := Bool.eq_false_iff.2 fun e => by (have := m7 e; simp [hL] at this)
        refine opA_val (.p (bo true)) rfl rfl (by simp (disch:=first|exact dsc|fail) only [go_sem,seval,reduceIte,Bool.false_eq_true,if_false,if_true,f0,f1,d0,d1,d2,h0,h1,h2,h5,n7,hL,hw,cells_db,aggOf_db hn2,hn2,hz2,hset,hb] <;> rfl) rfl ?_
        exact ⟨(by (try simp (disch:=first|exact dsc|fail) only [go_sem,seval]); exact f0),(by (try simp (disch:=first|exact dsc|fail) only [go_sem,seval]); exact f1),(fun q => by (rw [more_ne (by decide)] at q); (try simp (disch:=first|exact dsc|fail) only [go_sem,seval]); exact g0 q),(fun q => by (rw [more_ne (by decide)] at q); (try simp (disch:=first|exact dsc|fail) only [go_sem,seval]); exact g1 q),(fun q => by (rw [more_ne (by decide)] at q); (try simp (disch:=first|exact dsc|fail) only [go_sem,seval]); exact g2 q),(fun q => by (rw [more_ne (by decide)] at q); (try simp (disch:=first|exact dsc|fail) only [go_sem,seval]); exact g3 q),(fun q => by (rw [more_ne (by decide)] at q); (try simp (disch:=first|exact dsc|fail) only [go_sem,seval]); exact g4 q),(fun _ => by simp (disch:=first|exact dsc|fail) only [go_sem,seval]),(fun q => by (rw [more_ne (by decide)] at q); exact more_t (m1 q)),(fun q => by (rw [more_ne (by decide)] at q); exact more_t (m2 q)),(fun q => by (rw [more_ne (by decide)] at q); exact more_t (m4 q)),(fun q => by (rw [more_ne (by decide)] at q); obtain ⟨q0,q1,q2⟩ := m5 q; exact ⟨more_t q0,more_t q1,more_t q2⟩),(fun _ => ⟨more_t h0,more_t h1,more_t h2,more_t h5⟩),(fun q => by (rw [more_ne (by decide)] at q); obtain ⟨q0,q1,q2,q3,q4,q5,q6⟩ := m7 q; exact ⟨more_t q0,more_t q1,more_t q2,more_t q3,more_t q4,more_t q5,more_t q6⟩),(by (have e5 : more L 6 5 = L 5 := more_ne (by decide)); (have e7 : more L 6 7 = L 7 := more_ne (by decide)); (try simp only [e5,e7,h5,n7]); first | done | rfl | (simp only [e5,e7,h5,n7,if_true,if_false,Bool.false_eq_true]; first | done | rfl | (simp (disch:=first|exact dsc|fail) only [go_sem,seval,e5,e7,h5,n7,hw,cells_db,aggOf_db hn2,hn2,hz2,hset,hb] <;> rfl)))⟩
      · cases ho
        have h4 : L 4 = true := hall ⟨4,.data⟩ (by simp) rfl
        have d4 := g4 h4
        have h6 : L 6 = true := hall ⟨6,.chain⟩ (by simp) rfl
        have d6 := g6 h6
        have h0 : L 0 = true := hall ⟨0,.phase⟩ (by simp) rfl
        have d0 := g0 h0
        have h1 : L 1 = true := hall ⟨1,.phase⟩ (by simp) rfl
        have d1 := g1 h1
        have h2 : L 2 = true := hall ⟨2,.phase⟩ (by simp) rfl
        have d2 := g2 h2
        have h3 : L 3 = true := hall ⟨3,.phase⟩ (by simp) rfl
        have d3 := g3 h3
        have h5 : L 5 = true := hall ⟨5,.phase⟩ (by simp) rfl
        refine opA_unit rfl rfl (by simp (disch:=first|exact dsc|fail) only [go_sem,seval,reduceIte,Bool.false_eq_true,if_false,if_true,f0,f1,d0,d1,d2,d3,d4,d6,h0,h1,h2,h3,h4,h5,h6,hL,hw,cells_db,aggOf_db hn2,hn2,hz2,hset,hb] <;> rfl) rfl ?_
        exact ⟨(by (try simp (disch:=first|exact dsc|fail) only [go_sem,seval]); exact f0),(by (try simp (disch:=first|exact dsc|fail) only [go_sem,seval]); exact f1),(fun q => by (rw [more_ne (by decide)] at q); (try simp (disch:=first|exact dsc|fail) only [go_sem,seval]); exact g0 q),(fun q => by (rw [more_ne (by decide)] at q); (try simp (disch:=first|exact dsc|fail) only [go_sem,seval]); exact g1 q),(fun q => by (rw [more_ne (by decide)] at q); (try simp (disch:=first|exact dsc|fail) only [go_sem,seval]); exact g2 q),(fun q => by (rw [more_ne (by decide)] at q); (try simp (disch:=first|exact dsc|fail) only [go_sem,seval]); exact g3 q),(fun q => by (rw [more_ne (by decide)] at q); (try simp (disch:=first|exact dsc|fail) only [go_sem,seval]); exact g4 q),(fun q => by (rw [more_ne (by decide)] at q); (try simp (disch:=first|exact dsc|fail) only [go_sem,seval]); exact g6 q),(fun q => by (rw [more_ne (by decide)] at q); exact more_t (m1 q)),(fun q => by (rw [more_ne (by decide)] at q); exact more_t (m2 q)),(fun q => by (rw [more_ne (by decide)] at q); exact more_t (m4 q)),(fun q => by (rw [more_ne (by decide)] at q); obtain ⟨q0,q1,q2⟩ := m5 q; exact ⟨more_t q0,more_t q1,more_t q2⟩),(fun q => by (rw [more_ne (by decide)] at q); obtain ⟨q0,q1,q2,q5⟩ := m6 q; exact ⟨more_t q0,more_t q1,more_t q2,more_t q5⟩),(fun _ => ⟨more_t h0,more_t h1,more_t h2,more_t h3,more_t h4,more_t h5,more_t h6⟩),(by (have e5 : more L 7 5 = L 5 := more_ne (by decide)); (have e7 : more L 7 7 = true := more_eq); (try simp only [e5,e7,h5,hL]); first | done | rfl | (simp only [e5,e7,h5,hL,if_true,if_false,Bool.false_eq_true]; first | done | rfl | (simp (disch:=first|exact dsc|fail) only [go_sem,seval,e5,e7,h5,hL,hw,cells_db,aggOf_db hn2,hn2,hz2,hset,hb] <;> rfl)))⟩
      · simp at ho
    · intro L env' H' hall hI
      obtain ⟨f0,f1,g0,g1,g2,g3,g4,g6,_,_,_,_,_,_,rfl⟩ := hI
      have l5 := hall 5 (by decide)
      have l7 := hall 7 (by decide)
      replace g0 := g0 (hall 0 (by decide))
      replace g1 := g1 (hall 1 (by decide))
      replace g2 := g2 (hall 2 (by decide))
      replace g3 := g3 (hall 3 (by decide))
      replace g4 := g4 (hall 4 (by decide))
      replace g6 := g6 (hall 6 (by decide))
      simp only [l5,l7,if_true]
      clear hall
      (repeat refine .z rfl ?_); refine .text ?_; simp (disch:=first|exact dsc|fail) only [go_sem,seval,f1,g6]
      have hbel : Bel H.n (H.set b (.cells [.p (.sl false 32 (pl db (N.drop 1)))])) := bel_setx hbel fun z hz => by
        simp [AB.vals] at hz; subst hz; exact .p _
      (repeat refine .z rfl ?_); refine .rt Tryd.func71 (by rw [Tryd.results71]) (hx := by simp (disch:=first|exact dsc|fail) only [go_sem,seval,f1]; rfl) (hR := ?_); simp (disch:=first|exact dsc|fail) only [go_sem,seval,f1]
      exact h

set_option maxRecDepth 20000 in
set_option maxHeartbeats 8000000 in
theorem nextB_spec (N : List By) (hl : N.length ≤ 100000) (b : Nat) (H : Hp) (hb : H.f b = some (.cells [.p (.sl false 1 (pl bs N))])) (R : AV → Hp → Prop)
    (h : R (.tup [.p (bs (hdB N)),.p (bo (!N.isEmpty))]) (H.set b (.cells [.p (.sl false 1 (pl bs (N.drop 1)))]))) :
    ACall Tryd.prog G 70 [.ptr b 0] H R := by
  have hlt := Hp.lt hb
  refine ACall.of_run (raw := []) Tryd.func70 rfl Tryd.ntmps70 (by simp) fun hbel => ?_
  (repeat refine .z rfl ?_); refine .text ?_; simp (disch:=first|exact dsc|fail) only [go_sem,seval]
  (repeat refine .z rfl ?_); refine .text ?_; simp (disch:=first|exact dsc|fail) only [go_sem,seval,hb]
  by_cases e : N = []
  · subst e
    have hset : H.set b (.cells [.p (.sl false 1 (pl bs []))]) = H := Hp.ext (fun c => by
      by_cases hc : c = b
      · subst hc; rw [f_set_eq rfl hlt]; exact hb.symm
      · rw [f_set_ne' hc]) rfl
    have hz : hdB [] = [] := rfl
    rw [show List.drop 1 ([] : List By) = [] from rfl,hset,hz] at h
    (repeat refine .z rfl ?_); refine .ifF (by simp (disch:=first|exact dsc|fail) only [go_sem,seval]) ?_
    (repeat refine .z rfl ?_); refine .text ?_; simp (disch:=first|exact dsc|fail) only [go_sem,seval]
    (repeat refine .z rfl ?_); refine .rt Tryd.func70 (by rw [Tryd.results70]) (hR := ?_); simp (disch:=first|exact dsc|fail) only [go_sem,seval]
    exact h
  · have hne : N.length ≠ 0 := fun x => e (List.eq_nil_of_length_eq_zero x)
    have d : decide ((0 : Int) < (N.length : Int)) = true := by simp only [decide_eq_true_eq]; omega
    have hem : (!N.isEmpty) = true := by cases N with | nil => exact absurd rfl e | cons a b => rfl
    have hh : hdB N = nth N 0 := if_neg e
    have hcb : ∀ x,(bs x).cells = [bs x] := fun _ => rfl
    have hwb : ∀ x,(bs x).weak = bs x := fun _ => rfl
    rw [hem,hh] at h
    (repeat refine .z rfl ?_); refine .ifT (by simp (disch:=first|exact dsc|fail) only [go_sem,seval,d]) ?_
    generalize hw : nth N 0 = x at h
    (repeat refine .z rfl ?_); refine .open [7] follows (by kernel_rfl) ?_; simp (disch:=first|exact dsc|fail) only [go_sem,seval,hb,hw,hcb,List.getElem?_cons_zero]
    (repeat refine .z rfl ?_); refine .text ?_; simp (disch:=first|exact dsc|fail) only [go_sem,seval]
    have hbel : Bel H.n (H.set b (.cells [.p (.sl false 1 (pl bs (N.drop 1)))])) := bel_setx hbel fun z hz => by
      simp [AB.vals] at hz; subst hz; exact .p _
    (repeat refine .z rfl ?_); refine .rt Tryd.func70 (by rw [Tryd.results70]) (hx := by simp (disch:=first|exact dsc|fail) only [go_sem,seval,hwb]; rfl) (hR := ?_); simp (disch:=first|exact dsc|fail) only [go_sem,seval,hwb]
    exact h
end walks
end Go.Proofs.YthonhnpiglafkaaDoor

/-
  Hash trees: the digest that results from leaves and nodes.
-/
namespace Go.Proofs.YthonhnpiglafkaaDoor
open Go Go.AL

def rebF : Nat → List Int → Nat → Nat → List By → List By → Bool → By × List By × List By × Bool
  | 0,_,_,_,l,d,c => (zeroD,l,d,c)
  | f + 1,idx,lo,hi,l,d,c => if idx = [] then (hdD d,l,d.drop 1,c && !d.isEmpty) else if hi - lo = 1 then (leaf (hdB l),l.drop 1,d,c) else
    ((pair (rebF f (idx.filter fun i => decide (i < ((lo + spl (hi - lo) : Nat) : Int))) lo (lo + spl (hi - lo)) l d c).1
      (rebF f (idx.filter fun i => decide (((lo + spl (hi - lo) : Nat) : Int) ≤ i)) (lo + spl (hi - lo)) hi (rebF f (idx.filter fun i => decide (i < ((lo + spl (hi - lo) : Nat) : Int))) lo (lo + spl (hi - lo)) l d c).2.1 (rebF f (idx.filter fun i => decide (i < ((lo + spl (hi - lo) : Nat) : Int))) lo (lo + spl (hi - lo)) l d c).2.2.1 (rebF f (idx.filter fun i => decide (i < ((lo + spl (hi - lo) : Nat) : Int))) lo (lo + spl (hi - lo)) l d c).2.2.2).1),
      (rebF f (idx.filter fun i => decide (((lo + spl (hi - lo) : Nat) : Int) ≤ i)) (lo + spl (hi - lo)) hi (rebF f (idx.filter fun i => decide (i < ((lo + spl (hi - lo) : Nat) : Int))) lo (lo + spl (hi - lo)) l d c).2.1 (rebF f (idx.filter fun i => decide (i < ((lo + spl (hi - lo) : Nat) : Int))) lo (lo + spl (hi - lo)) l d c).2.2.1 (rebF f (idx.filter fun i => decide (i < ((lo + spl (hi - lo) : Nat) : Int))) lo (lo + spl (hi - lo)) l d c).2.2.2).2)

theorem rebF_split {f : Nat} {idx : List Int} {lo hi : Nat} {l d : List By} {c : Bool} (e : idx ≠ []) (e1 : hi - lo ≠ 1) {k : Nat} (hk : lo + spl (hi - lo) = k) {x1 x2 : By} {l1 d1 l2 d2 : List By} {c1 c2 : Bool}
    (h1 : rebF f (idx.filter fun i => decide (i < (k : Int))) lo k l d c = (x1,l1,d1,c1)) (h2 : rebF f (idx.filter fun i => decide ((k : Int) ≤ i)) k hi l1 d1 c1 = (x2,l2,d2,c2)) :
    rebF (f + 1) idx lo hi l d c = (pair x1 x2,l2,d2,c2) := by
  rw [rebF,if_neg e,if_neg e1,hk,h1]
  dsimp only
  rw [h2]

theorem rebF_ok : ∀ (f : Nat) (idx : List Int) (lo hi : Nat) (l d : List By) (c : Bool),(∀ x ∈ d,x.length = 32) → Short l →
    (rebF f idx lo hi l d c).1.length = 32 ∧ (∃ k,(rebF f idx lo hi l d c).2.1 = l.drop k) ∧ ∃ k,(rebF f idx lo hi l d c).2.2.1 = d.drop k
  | 0,_,_,_,l,d,_,hd,hl => ⟨rfl,⟨0,rfl⟩,⟨0,rfl⟩⟩
  | f + 1,idx,lo,hi,l,d,c,hd,hl => by
    by_cases e : idx = []
    · rw [rebF,if_pos e]; dsimp only; exact ⟨hdD_len hd,⟨0,List.drop_zero.symm⟩,⟨1,rfl⟩⟩
    · by_cases e1 : hi - lo = 1
      · rw [rebF,if_neg e,if_pos e1]; dsimp only; exact ⟨leaf_len _,⟨1,rfl⟩,⟨0,List.drop_zero.symm⟩⟩
      · generalize hr1 : rebF f (idx.filter fun i => decide (i < ((lo + spl (hi - lo) : Nat) : Int))) lo (lo + spl (hi - lo)) l d c = r1
        obtain ⟨x1,l1,d1,c1⟩ := r1
        generalize hr2 : rebF f (idx.filter fun i => decide (((lo + spl (hi - lo) : Nat) : Int) ≤ i)) (lo + spl (hi - lo)) hi l1 d1 c1 = r2
        obtain ⟨x2,l2,d2,c2⟩ := r2
        obtain ⟨_,⟨a,ha⟩,⟨b,hb⟩⟩ := rebF_ok f _ lo (lo + spl (hi - lo)) l d c hd hl
        rw [hr1] at ha hb
        dsimp only at ha hb
        obtain ⟨_,⟨a2,ha2⟩,⟨b2,hb2⟩⟩ := rebF_ok f (idx.filter fun i => decide (((lo + spl (hi - lo) : Nat) : Int) ≤ i)) (lo + spl (hi - lo)) hi l1 d1 c1 (fun x hx => hd x (by rw [hb] at hx; exact List.mem_of_mem_drop hx)) (by rw [ha]; exact hl.drop a)
        rw [hr2] at ha2 hb2
        dsimp only at ha2 hb2
        rw [rebF_split e e1 rfl hr1 hr2]
        dsimp only
        exact ⟨pair_len _ _,⟨a + a2,by rw [ha2,ha,List.drop_drop]⟩,⟨b + b2,by rw [hb2,hb,List.drop_drop]⟩⟩

structure Fam (S : List By → List By → Bool → Hp) (m q cc p r bl bn : Nat) : Prop where
  n : ∀ l d c,(S l d c).n = m
  bel : ∀ l d c,Bel m (S l d c)
  fq : ∀ l d c,(S l d c).f q = some (.cells [.clo 71 [] [.ptr bn 0]])
  fcc : ∀ l d c,(S l d c).f cc = some (.cells [.p (bo c)])
  fp : ∀ l d c,(S l d c).f p = some (.cells [.clo 70 [] [.ptr bl 0]])
  fr : ∀ l d c,(S l d c).f r = some (.cells [.clo 50 [] [.ptr q 0,.ptr cc 0,.ptr p 0,.ptr r 0]])
  fl : ∀ l d c,(S l d c).f bl = some (.cells [.p (.sl false 1 (pl bs l))])
  fn : ∀ l d c,(S l d c).f bn = some (.cells [.p (.sl false 32 (pl db d))])
  sl : ∀ l d c l',(S l d c).set bl (.cells [.p (.sl false 1 (pl bs l'))]) = S l' d c
  sn : ∀ l d c d',(S l d c).set bn (.cells [.p (.sl false 32 (pl db d'))]) = S l d' c
  sc : ∀ l d c c',(S l d c).set cc (.cells [.p (bo c')]) = S l d c'
theorem Fam.new {S : List By → List By → Bool → Hp} {m q cc p r bl bn : Nat} (h : Fam S m q cc p r bl bn) {X : AB} (hx : ∀ y ∈ X.vals,BelowN m y) : Fam (fun l d c => (S l d c).new X) (m + 1) q cc p r bl bn where
  n l d c := by rw [Hp.n_new,h.n]
  bel l d c := by
    have hn := h.n l d c
    refine bel_newx (bel_mono (h.bel l d c) (by omega) (by omega)) fun y hy => (hx y hy).mono (by omega)
  fq l d c := by have := Hp.lt (h.fq l d c); rw [Hp.f_new,if_neg (by omega)]; exact h.fq l d c
  fcc l d c := by have := Hp.lt (h.fcc l d c); rw [Hp.f_new,if_neg (by omega)]; exact h.fcc l d c
  fp l d c := by have := Hp.lt (h.fp l d c); rw [Hp.f_new,if_neg (by omega)]; exact h.fp l d c
  fr l d c := by have := Hp.lt (h.fr l d c); rw [Hp.f_new,if_neg (by omega)]; exact h.fr l d c
  fl l d c := by have := Hp.lt (h.fl l d c); rw [Hp.f_new,if_neg (by omega)]; exact h.fl l d c
  fn l d c := by have := Hp.lt (h.fn l d c); rw [Hp.f_new,if_neg (by omega)]; exact h.fn l d c
  sl l d c l' := by have := Hp.lt (h.fl l d c); rw [set_new_ne (by omega),h.sl]
  sn l d c d' := by have := Hp.lt (h.fn l d c); rw [set_new_ne (by omega),h.sn]
  sc l d c c' := by have := Hp.lt (h.fcc l d c); rw [set_new_ne (by omega),h.sc]
end Go.Proofs.YthonhnpiglafkaaDoor

/-
  Hash trees: the walk of the closure that rebuilds a digest.
-/
namespace Go.Proofs.YthonhnpiglafkaaDoor
open Go Go.AL

theorem zeroL : cl b8 [0#8,0#8,0#8,0#8,0#8,0#8,0#8,0#8,0#8,0#8,0#8,0#8,0#8,0#8,0#8,0#8,0#8,0#8,0#8,0#8,0#8,0#8,0#8,0#8,0#8,0#8,0#8,0#8,0#8,0#8,0#8,0#8] = cl b8 zeroD := rfl
section walks
variable {G : Globs}
set_option maxRecDepth 20000 in
set_option maxHeartbeats 16000000 in
theorem rebuild_spec (hG : GS G) (q cc p r bl bn : Nat) : ∀ (f : Nat) (S : List By → List By → Bool → Hp) (m : Nat) (_ : Fam S m q cc p r bl bn) (lo hi : Nat) (idx : List Int) (l d : List By) (c : Bool) (_ : hi - lo ≤ f) (_ : lo < hi) (_ : hi ≤ 65536) (_ : Asc idx) (_ : idx.length ≤ 100000)
    (_ : ∀ x ∈ d,x.length = 32) (_ : d.length ≤ 100000) (_ : Short l) (_ : l.length ≤ 100000) (R : AV → Hp → Prop)
    (_ : R (.p (.agg (pl b8 (rebF f idx lo hi l d c).1))) (S (rebF f idx lo hi l d c).2.1 (rebF f idx lo hi l d c).2.2.1 (rebF f idx lo hi l d c).2.2.2)),
    ACall Tryd.prog G 50 [.p (subV lo hi idx),.ptr q 0,.ptr cc 0,.ptr p 0,.ptr r 0] (S l d c) R := by
  have hG' := hG
  obtain ⟨hG0,hG1⟩ := hG
  intro f
  induction f with
  | zero => intro S m hF lo hi idx l d c h1 h2; omega
  | succ f ih =>
    intro S m hF lo hi idx l d c h1 h2 h3 ha hil hd hdl hl hll R h
    have hn := hF.n
    have fq := hF.fq; have fcc := hF.fcc; have fp := hF.fp; have fr := hF.fr; have fl := hF.fl; have fn := hF.fn
    have sl := hF.sl; have sn := hF.sn; have sc := hF.sc
    have lq : q < m := by rw [← hn l d c]; exact Hp.lt (fq l d c)
    have lc : cc < m := by rw [← hn l d c]; exact Hp.lt (fcc l d c)
    have lp : p < m := by rw [← hn l d c]; exact Hp.lt (fp l d c)
    have lr : r < m := by rw [← hn l d c]; exact Hp.lt (fr l d c)
    have ll : bl < m := by rw [← hn l d c]; exact Hp.lt (fl l d c)
    have ln : bn < m := by rw [← hn l d c]; exact Hp.lt (fn l d c)
    have hn0 := hn l d c
    unfold subV
    refine ACall.of_run (raw := []) Tryd.func50 rfl Tryd.ntmps50 (by simp) fun hbel => ?_
    clear hbel
    rw [hn]
    have hbel : ∀ l d c,Bel m (S l d c) := hF.bel
    (repeat refine .z rfl ?_); refine .text ?_; simp (disch:=first|exact dsc|fail) only [go_sem,seval,hn]
    rw [zeroL]
    (repeat refine .z rfl ?_); refine .text ?_; simp (disch:=first|exact dsc|fail) only [go_sem,seval,hn]
    have hzz : zeroD.length = 32 := rfl
    have hzd : zeroD.drop 32 = [] := rfl
    have han := List.append_nil (α := BitVec 8)
    by_cases e : idx = []
    · subst e
      have hz2 : zeroD.length = 32 := rfl
      have hh := hdD_len hd
      rw [rebF,if_pos rfl] at h
      dsimp only at h
      have hn1 := hn l (d.drop 1) c
      have hn2 := hn l (d.drop 1) (c && !d.isEmpty)
      (repeat refine .z rfl ?_); refine .ifT (by simp (disch:=first|exact dsc|fail) only [go_sem,seval]) ?_
      (repeat refine .z rfl ?_); refine .text ?_; simp (disch:=first|exact dsc|fail) only [go_sem,seval,hn,fq]
      refine CallK.of (fun R h => nextD_spec d hdl hd bn _ (by simp (disch:=first|exact dsc|fail) only [go_sem,seval,hn,fn]) R h) ?_; simp (disch:=first|exact dsc|fail) only [go_sem,seval,hn,sn]
      cases c
      · rw [Bool.false_and] at h
        (repeat refine .z rfl ?_); refine .text ?_; simp (disch:=first|exact dsc|fail) only [go_sem,seval,hn,sn,fcc,hh,sc]
        (repeat refine .z rfl ?_); refine .text ?_; simp (disch:=first|exact dsc|fail) only [go_sem,seval,hn,hh,hzz,hzd,han]
        have hbel := hF.bel l (d.drop 1) false
        (repeat refine .z rfl ?_); refine .rt Tryd.func50 (by rw [Tryd.results50]) (hx := by simp (disch:=first|exact dsc|fail) only [go_sem,seval,hn]; rfl) (hR := ?_); simp (disch:=first|exact dsc|fail) only [go_sem,seval,hn]
        exact h
      · rw [Bool.true_and] at h
        have hn3 := hn l (d.drop 1) (!d.isEmpty)
        (repeat refine .z rfl ?_); refine .text ?_; simp (disch:=first|exact dsc|fail) only [go_sem,seval,hn,sn,fcc,hh,sc]
        (repeat refine .z rfl ?_); refine .text ?_; simp (disch:=first|exact dsc|fail) only [go_sem,seval,hn,hh,hzz,hzd,han]
        have hbel := hF.bel l (d.drop 1) (!d.isEmpty)
        (repeat refine .z rfl ?_); refine .rt Tryd.func50 (by rw [Tryd.results50]) (hx := by simp (disch:=first|exact dsc|fail) only [go_sem,seval,hn]; rfl) (hR := ?_); simp (disch:=first|exact dsc|fail) only [go_sem,seval,hn]
        exact h
    · have hlen : ((idx.length : Int) == 0) = false := by
        have : idx.length ≠ 0 := fun x => e (List.eq_nil_of_length_eq_zero x)
        rw [beq_eq_false_iff_ne]; omega
      (repeat refine .z rfl ?_); refine .ifF (by simp (disch:=first|exact dsc|fail) only [go_sem,seval,hlen]) ?_
      by_cases e1 : hi - lo = 1
      · have hd1 : ((hi : Int) - (lo : Int) == 1) = true := by rw [beq_iff_eq]; omega
        rw [rebF,if_neg e,if_pos e1] at h
        dsimp only at h
        have hn1 := hn (l.drop 1) d c
        have hbl := hdB_len hl
        have hcb : ∀ x : By,bs x = .sl false 1 (pl b8 x) := fun _ => rfl
        have hz2 : (leaf (hdB l)).length = 32 := leaf_len _
        (repeat refine .z rfl ?_); refine .text ?_; simp (disch:=first|exact dsc|fail) only [go_sem,seval,hn,hd1]
        (repeat refine .z rfl ?_); refine .ifT (by simp (disch:=first|exact dsc|fail) only [go_sem,seval,hd1]) ?_
        (repeat refine .z rfl ?_); refine .text ?_; simp (disch:=first|exact dsc|fail) only [go_sem,seval,hn,fp]
        refine CallK.of (fun R h => nextB_spec l hll bl _ (by simp (disch:=first|exact dsc|fail) only [go_sem,seval,hn,fl]) R h) ?_; simp (disch:=first|exact dsc|fail) only [go_sem,seval,hn,sl]
        (repeat refine .z rfl ?_); refine .text ?_; simp (disch:=first|exact dsc|fail) only [go_sem,seval,hn,hcb]
        refine CallK.of (fun R h => Leaf_spec hG0 hG1 (hdB l) hbl _ R h) ?_; simp (disch:=first|exact dsc|fail) only [go_sem,seval,hn,hz2,hzz,hzd,han]
        have hbel := hF.bel (l.drop 1) d c
        (repeat refine .z rfl ?_); refine .rt Tryd.func50 (by rw [Tryd.results50]) (hx := by simp (disch:=first|exact dsc|fail) only [go_sem,seval,hn]; rfl) (hR := ?_); simp (disch:=first|exact dsc|fail) only [go_sem,seval,hn]
        exact h
      · have hd1 : ((hi : Int) - (lo : Int) == 1) = false := by rw [beq_eq_false_iff_ne]; omega
        (repeat refine .z rfl ?_); refine .text ?_; simp (disch:=first|exact dsc|fail) only [go_sem,seval,hn,hd1]
        (repeat refine .z rfl ?_); refine .ifF (by simp (disch:=first|exact dsc|fail) only [go_sem,seval,hd1]) ?_
        (repeat refine .z rfl ?_)
        obtain ⟨s1,s2,s3⟩ := spl_lt (n := hi - lo) (by omega)
        have hps := fun (H : Hp) (R : AV → Hp → Prop) h => parts_spec (G := G) lo hi (by omega) h3 idx hil ha H R h
        have hk1 : lo < lo + spl (hi - lo) := by omega
        have hk2 : lo + spl (hi - lo) < hi := by omega
        have hf1 : lo + spl (hi - lo) - lo ≤ f := by omega
        have hf2 : hi - (lo + spl (hi - lo)) ≤ f := by omega
        generalize hk : lo + spl (hi - lo) = k at hps hk1 hk2 hf1 hf2
        generalize hr1 : rebF f (idx.filter fun i => decide (i < (k : Int))) lo k l d c = r1
        obtain ⟨x1,l1,d1,c1⟩ := r1
        generalize hr2 : rebF f (idx.filter fun i => decide ((k : Int) ≤ i)) k hi l1 d1 c1 = r2
        obtain ⟨x2,l2,d2,c2⟩ := r2
        rw [rebF_split e e1 hk hr1 hr2] at h
        dsimp only at h
        have o1 := rebF_ok f (idx.filter fun i => decide (i < (k : Int))) lo k l d c hd hl
        rw [hr1] at o1
        obtain ⟨hx1,⟨a1,ha1⟩,⟨b1,hb1⟩⟩ := o1
        dsimp only at hx1 ha1 hb1
        have hd1' : ∀ x ∈ d1,x.length = 32 := fun x hx => hd x (by rw [hb1] at hx; exact List.mem_of_mem_drop hx)
        have hl1' : Short l1 := by rw [ha1]; exact hl.drop a1
        have hdl1 : d1.length ≤ 100000 := by rw [hb1,List.length_drop]; omega
        have hll1 : l1.length ≤ 100000 := by rw [ha1,List.length_drop]; omega
        have o2 := rebF_ok f (idx.filter fun i => decide ((k : Int) ≤ i)) k hi l1 d1 c1 hd1' hl1'
        rw [hr2] at o2
        have hx2 := o2.1
        dsimp only at hx2
        have hl1 : (idx.filter fun i => decide (i < (k : Int))).length ≤ 100000 := Nat.le_trans (List.length_filter_le _ _) hil
        have hl2 : (idx.filter fun i => decide ((k : Int) ≤ i)).length ≤ 100000 := Nat.le_trans (List.length_filter_le _ _) hil
        have ha1 := asc_filter (p := fun i => decide (i < (k : Int))) ha
        have ha2 := asc_filter (p := fun i => decide ((k : Int) ≤ i)) ha
        have htk : ∀ c,Low idx (k : Int) c → idx.take c = idx.filter fun i => decide (i < (k : Int)) := fun c h => h.take
        have hdr : ∀ c,Low idx (k : Int) c → idx.drop c = idx.filter fun i => decide ((k : Int) ≤ i) := fun c h => h.drop
        generalize (idx.filter fun i => decide (i < (k : Int))) = i1 at hr1 hl1 ha1 htk
        generalize (idx.filter fun i => decide ((k : Int) ≤ i)) = i2 at hr2 hl2 ha2 hdr
        unfold subV at hps
        have hF2 := (((hF.new (X := .cells [.p (i64 lo),.p (i64 hi),.p (.sl false 1 (pl i64 idx))]) (fun y hy => by simp [AB.vals] at hy; rcases hy with rfl | rfl | rfl <;> exact .p _)).new (X := .cells (cl b8 zeroD)) (fun y hy => by
          simp only [AB.vals,cl,List.mem_map] at hy
          obtain ⟨x,_,rfl⟩ := hy
          exact .p _)).new (X := .cells [.p (i64 lo),.p (i64 k),.p (.sl false 1 (pl i64 i1))]) (fun y hy => by simp [AB.vals] at hy; rcases hy with rfl | rfl | rfl <;> exact .p _)).new (X := .cells [.p (i64 k),.p (i64 hi),.p (.sl false 1 (pl i64 i2))]) (fun y hy => by simp [AB.vals] at hy; rcases hy with rfl | rfl | rfl <;> exact .p _)
        have hF3 := hF2.new (X := .cells (cl b8 x1)) (fun y hy => by
          simp only [AB.vals,cl,List.mem_map] at hy
          obtain ⟨x,_,rfl⟩ := hy
          exact .p _)
        have hc1 := ih _ _ hF2 lo k i1 l d c hf1 hk1 (by omega) ha1 hl1 hd hdl hl hll
        have hc2 := ih _ _ hF3 k hi i2 l1 d1 c1 hf2 hk2 (by omega) ha2 hl2 hd1' hdl1 hl1' hll1
        rw [hr1] at hc1
        rw [hr2] at hc2
        dsimp only at hc1 hc2
        unfold subV at hc1 hc2
        have hn1 := hn l1 d1 c1
        have hn2 := hn l2 d2 c2
        (repeat refine .z rfl ?_); refine .text ?_; simp (disch:=first|exact dsc|fail) only [go_sem,seval,hn]
        refine CallK.of (r := .tup [.p (.agg [i64 lo,i64 k,.sl false 1 (pl i64 i1)]),.p (.agg [i64 k,i64 hi,.sl false 1 (pl i64 i2)])]) (fun R h => hps _ R fun c hc => by rw [htk c hc,hdr c hc]; exact h) ?_
        simp (disch:=first|exact dsc|fail) only [go_sem,seval,hn]
        (repeat refine .z rfl ?_); refine .text ?_; simp (disch:=first|exact dsc|fail) only [go_sem,seval,hn,fr]
        refine CallK.of hc1 ?_
        simp (disch:=first|exact dsc|fail) only [go_sem,seval,hn]
        obtain ⟨SS,hS0,hS1⟩ : ∃ SS : Bool → Hp,SS false = S l1 d1 c1 ∧ SS true = S l2 d2 c2 := ⟨fun b => bif b then S l2 d2 c2 else S l1 d1 c1,rfl,rfl⟩
        have hSn : ∀ b,(SS b).n = m := fun b => by cases b <;> simp only [hS0,hS1,hn]
        have hSr : ∀ b,(SS b).f r = some (.cells [.clo 50 [] [.ptr q 0,.ptr cc 0,.ptr p 0,.ptr r 0]]) := fun b => by cases b <;> simp only [hS0,hS1,fr]
        rw [← hS0,← hS1] at hc2
        have hSb : Bel m (SS true) := by rw [hS1]; exact hF.bel l2 d2 c2
        rw [← hS1] at h
        rw [← hS0]
        have hpp := pair_len x1 x2
        (repeat refine .z rfl ?_)
        refine .openInv (fun L env' H' => env' 4 = .ptr r 0 ∧ env' 6 = .ptr (m + 1) 0 ∧ env' 12 = .ptr (m + 3) 0 ∧ env' 13 = .ptr (m + 4) 0 ∧ (L 0 = true → env' 51 = .p (.agg (pl b8 x1))) ∧ (L 1 = true → env' 52 = .clo 50 [] [.ptr q 0,.ptr cc 0,.ptr p 0,.ptr r 0]) ∧ (L 2 = true → env' 53 = .p (.agg [i64 k,i64 hi,.sl false 1 (pl i64 i2)])) ∧ (L 3 = true → env' 54 = .p (.agg (pl b8 x2))) ∧ (L 4 = true → env' 55 = .p (.agg (pl b8 (pair x1 x2)))) ∧ (L 3 = true → L 1 = true ∧ L 2 = true) ∧ (L 4 = true → L 0 = true ∧ L 3 = true) ∧ (L 5 = true → L 0 = true ∧ L 1 = true ∧ L 2 = true ∧ L 3 = true ∧ L 4 = true) ∧ H' = ((((((SS (L 3)).new (.cells [.p (i64 lo),.p (i64 hi),.p (.sl false 1 (pl i64 idx))])).new (if L 5 then .cells (cl b8 (pair x1 x2)) else .cells (cl b8 zeroD))).new (.cells [.p (i64 lo),.p (i64 k),.p (.sl false 1 (pl i64 i1))])).new (.cells [.p (i64 k),.p (i64 hi),.p (.sl false 1 (pl i64 i2))])).new (.cells (cl b8 x1)))) follows (by kernel_rfl) ?_ ?_ ?_
        · exact ⟨(by simp (disch:=first|exact dsc|fail) only [go_sem,seval,hSn,hSr,hx1,hx2,hpp,hzz,hzd,han]),(by simp (disch:=first|exact dsc|fail) only [go_sem,seval,hSn,hSr,hx1,hx2,hpp,hzz,hzd,han]),(by simp (disch:=first|exact dsc|fail) only [go_sem,seval,hSn,hSr,hx1,hx2,hpp,hzz,hzd,han]),(by simp (disch:=first|exact dsc|fail) only [go_sem,seval,hSn,hSr,hx1,hx2,hpp,hzz,hzd,han]),(fun h => by cases h),(fun h => by cases h),(fun h => by cases h),(fun h => by cases h),(fun h => by cases h),(fun h => by cases h),(fun h => by cases h),(fun h => by cases h),(by first | rfl | (simp only [Bool.false_eq_true,if_false]; first | rfl | (simp (disch:=first|exact dsc|fail) only [go_sem,seval,hSn,hSr,hx1,hx2,hpp,hzz,hzd,han] <;> rfl)))⟩
        · intro i o L env' H' ho hL hall hI
          obtain ⟨f0,f1,f2,f3,g0,g1,g2,g3,g4,m3,m4,m5,rfl⟩ := hI
          have hSx := hSn (L 3); have hSf := hSn false; have hSt := hSn true
          rcases i with _ | _ | _ | _ | _ | _ | i
          · cases ho
            have n4 : L 4 = false := Bool.eq_false_iff.2 fun e => by (have := m4 e; simp [hL] at this)
            have n5 : L 5 = false := Bool.eq_false_iff.2 fun e => by (have := m5 e; simp [hL] at this)
            refine opA_val (.p (.agg (pl b8 x1))) rfl rfl (by simp (disch:=first|exact dsc|fail) only [go_sem,seval,reduceIte,Bool.false_eq_true,if_false,if_true,f0,f1,f2,f3,n4,n5,hL,hSn,hSr,hx1,hx2,hpp,hzz,hzd,han] <;> rfl) rfl ?_
            exact ⟨(by (try simp (disch:=first|exact dsc|fail) only [go_sem,seval]); exact f0),(by (try simp (disch:=first|exact dsc|fail) only [go_sem,seval]); exact f1),(by (try simp (disch:=first|exact dsc|fail) only [go_sem,seval]); exact f2),(by (try simp (disch:=first|exact dsc|fail) only [go_sem,seval]); exact f3),(fun _ => by simp (disch:=first|exact dsc|fail) only [go_sem,seval]),(fun q => by (rw [more_ne (by decide)] at q); (try simp (disch:=first|exact dsc|fail) only [go_sem,seval]); exact g1 q),(fun q => by (rw [more_ne (by decide)] at q); (try simp (disch:=first|exact dsc|fail) only [go_sem,seval]); exact g2 q),(fun q => by (rw [more_ne (by decide)] at q); (try simp (disch:=first|exact dsc|fail) only [go_sem,seval]); exact g3 q),(fun q => by (rw [more_ne (by decide)] at q); (try simp (disch:=first|exact dsc|fail) only [go_sem,seval]); exact g4 q),(fun q => by (rw [more_ne (by decide)] at q); obtain ⟨q1,q2⟩ := m3 q; exact ⟨more_t q1,more_t q2⟩),(fun q => by (rw [more_ne (by decide)] at q); obtain ⟨q0,q3⟩ := m4 q; exact ⟨more_t q0,more_t q3⟩),(fun q => by (rw [more_ne (by decide)] at q); obtain ⟨q0,q1,q2,q3,q4⟩ := m5 q; exact ⟨more_t q0,more_t q1,more_t q2,more_t q3,more_t q4⟩),(by (have e3 : more L 0 3 = L 3 := more_ne (by decide)); (have e5 : more L 0 5 = L 5 := more_ne (by decide)); (try simp only [e3,e5,n5]); first | done | rfl | (simp only [e3,e5,n5,if_true,if_false,Bool.false_eq_true]; first | done | rfl | (simp (disch:=first|exact dsc|fail) only [go_sem,seval,e3,e5,n5,hSn,hSr,hx1,hx2,hpp,hzz,hzd,han] <;> rfl)))⟩
          · cases ho
            have n3 : L 3 = false := Bool.eq_false_iff.2 fun e => by (have := m3 e; simp [hL] at this)
            have n5 : L 5 = false := Bool.eq_false_iff.2 fun e => by (have := m5 e; simp [hL] at this)
            refine opA_val (.clo 50 [] [.ptr q 0,.ptr cc 0,.ptr p 0,.ptr r 0]) rfl rfl (by simp (disch:=first|exact dsc|fail) only [go_sem,seval,reduceIte,Bool.false_eq_true,if_false,if_true,f0,f1,f2,f3,n3,n5,hL,hSn,hSr,hx1,hx2,hpp,hzz,hzd,han] <;> rfl) rfl ?_
            exact ⟨(by (try simp (disch:=first|exact dsc|fail) only [go_sem,seval]); exact f0),(by (try simp (disch:=first|exact dsc|fail) only [go_sem,seval]); exact f1),(by (try simp (disch:=first|exact dsc|fail) only [go_sem,seval]); exact f2),(by (try simp (disch:=first|exact dsc|fail) only [go_sem,seval]); exact f3),(fun q => by (rw [more_ne (by decide)] at q); (try simp (disch:=first|exact dsc|fail) only [go_sem,seval]); exact g0 q),(fun _ => by simp (disch:=first|exact dsc|fail) only [go_sem,seval]),(fun q => by (rw [more_ne (by decide)] at q); (try simp (disch:=first|exact dsc|fail) only [go_sem,seval]); exact g2 q),(fun q => by (rw [more_ne (by decide)] at q); (try simp (disch:=first|exact dsc|fail) only [go_sem,seval]); exact g3 q),(fun q => by (rw [more_ne (by decide)] at q); (try simp (disch:=first|exact dsc|fail) only [go_sem,seval]); exact g4 q),(fun q => by (rw [more_ne (by decide)] at q); obtain ⟨q1,q2⟩ := m3 q; exact ⟨more_t q1,more_t q2⟩),(fun q => by (rw [more_ne (by decide)] at q); obtain ⟨q0,q3⟩ := m4 q; exact ⟨more_t q0,more_t q3⟩),(fun q => by (rw [more_ne (by decide)] at q); obtain ⟨q0,q1,q2,q3,q4⟩ := m5 q; exact ⟨more_t q0,more_t q1,more_t q2,more_t q3,more_t q4⟩),(by (have e3 : more L 1 3 = L 3 := more_ne (by decide)); (have e5 : more L 1 5 = L 5 := more_ne (by decide)); (try simp only [e3,e5,n3,n5]); first | done | rfl | (simp only [e3,e5,n3,n5,if_true,if_false,Bool.false_eq_true]; first | done | rfl | (simp (disch:=first|exact dsc|fail) only [go_sem,seval,e3,e5,n3,n5,hSn,hSr,hx1,hx2,hpp,hzz,hzd,han] <;> rfl)))⟩
          · cases ho
            have n3 : L 3 = false := Bool.eq_false_iff.2 fun e => by (have := m3 e; simp [hL] at this)
            have n5 : L 5 = false := Bool.eq_false_iff.2 fun e => by (have := m5 e; simp [hL] at this)
            refine opA_val (.p (.agg [i64 k,i64 hi,.sl false 1 (pl i64 i2)])) rfl rfl (by simp (disch:=first|exact dsc|fail) only [go_sem,seval,reduceIte,Bool.false_eq_true,if_false,if_true,f0,f1,f2,f3,n3,n5,hL,hSn,hSr,hx1,hx2,hpp,hzz,hzd,han] <;> rfl) rfl ?_
            exact ⟨(by (try simp (disch:=first|exact dsc|fail) only [go_sem,seval]); exact f0),(by (try simp (disch:=first|exact dsc|fail) only [go_sem,seval]); exact f1),(by (try simp (disch:=first|exact dsc|fail) only [go_sem,seval]); exact f2),(by (try simp (disch:=first|exact dsc|fail) only [go_sem,seval]); exact f3),(fun q => by (rw [more_ne (by decide)] at q); (try simp (disch:=first|exact dsc|fail) only [go_sem,seval]); exact g0 q),(fun q => by (rw [more_ne (by decide)] at q); (try simp (disch:=first|exact dsc|fail) only [go_sem,seval]); exact g1 q),(fun _ => by simp (disch:=first|exact dsc|fail) only [go_sem,seval]),(fun q => by (rw [more_ne (by decide)] at q); (try simp (disch:=first|exact dsc|fail) only [go_sem,seval]); exact g3 q),(fun q => by (rw [more_ne (by decide)] at q); (try simp (disch:=first|exact dsc|fail) only [go_sem,seval]); exact g4 q),(fun q => by (rw [more_ne (by decide)] at q); obtain ⟨q1,q2⟩ := m3 q; exact ⟨more_t q1,more_t q2⟩),(fun q => by (rw [more_ne (by decide)] at q); obtain ⟨q0,q3⟩ := m4 q; exact ⟨more_t q0,more_t q3⟩),(fun q => by (rw [more_ne (by decide)] at q); obtain ⟨q0,q1,q2,q3,q4⟩ := m5 q; exact ⟨more_t q0,more_t q1,more_t q2,more_t q3,more_t q4⟩),(by (have e3 : more L 2 3 = L 3 := more_ne (by decide)); (have e5 : more L 2 5 = L 5 := more_ne (by decide)); (try simp only [e3,e5,n3,n5]); first | done | rfl | (simp only [e3,e5,n3,n5,if_true,if_false,Bool.false_eq_true]; first | done | rfl | (simp (disch:=first|exact dsc|fail) only [go_sem,seval,e3,e5,n3,n5,hSn,hSr,hx1,hx2,hpp,hzz,hzd,han] <;> rfl)))⟩
          · cases ho
            have h1 : L 1 = true := hall ⟨1,.data⟩ (by simp) rfl
            have d1 := g1 h1
            have h2 : L 2 = true := hall ⟨2,.data⟩ (by simp) rfl
            have d2 := g2 h2
            have n4 : L 4 = false := Bool.eq_false_iff.2 fun e => by (have := m4 e; simp [hL] at this)
            have n5 : L 5 = false := Bool.eq_false_iff.2 fun e => by (have := m5 e; simp [hL] at this)
            (try simp only [n5,hL,if_true,if_false,Bool.false_eq_true])
            refine opA_call rfl rfl (by simp (disch:=first|exact dsc|fail) only [go_sem,seval,reduceIte,Bool.false_eq_true,if_false,if_true,f0,f1,f2,f3,d1,d2,h1,h2,n4,n5,hL,hSn,hSr,hx1,hx2,hpp,hzz,hzd,han] <;> rfl) rfl (by simp (disch:=first|exact dsc|fail) only [go_sem,seval,reduceIte,Bool.false_eq_true,if_false,if_true,f0,f1,f2,f3,d1,d2,h1,h2,n4,n5,hL,hSn,hSr,hx1,hx2,hpp,hzz,hzd,han] <;> rfl) (fun R h => hc2 R h) ?_
            exact ⟨(by (try simp (disch:=first|exact dsc|fail) only [go_sem,seval]); exact f0),(by (try simp (disch:=first|exact dsc|fail) only [go_sem,seval]); exact f1),(by (try simp (disch:=first|exact dsc|fail) only [go_sem,seval]); exact f2),(by (try simp (disch:=first|exact dsc|fail) only [go_sem,seval]); exact f3),(fun q => by (rw [more_ne (by decide)] at q); (try simp (disch:=first|exact dsc|fail) only [go_sem,seval]); exact g0 q),(fun q => by (rw [more_ne (by decide)] at q); (try simp (disch:=first|exact dsc|fail) only [go_sem,seval]); exact g1 q),(fun q => by (rw [more_ne (by decide)] at q); (try simp (disch:=first|exact dsc|fail) only [go_sem,seval]); exact g2 q),(fun _ => by simp (disch:=first|exact dsc|fail) only [go_sem,seval]),(fun q => by (rw [more_ne (by decide)] at q); (try simp (disch:=first|exact dsc|fail) only [go_sem,seval]); exact g4 q),(fun _ => ⟨more_t h1,more_t h2⟩),(fun q => by (rw [more_ne (by decide)] at q); obtain ⟨q0,q3⟩ := m4 q; exact ⟨more_t q0,more_t q3⟩),(fun q => by (rw [more_ne (by decide)] at q); obtain ⟨q0,q1,q2,q3,q4⟩ := m5 q; exact ⟨more_t q0,more_t q1,more_t q2,more_t q3,more_t q4⟩),(by (have e3 : more L 3 3 = true := more_eq); (have e5 : more L 3 5 = L 5 := more_ne (by decide)); (try simp only [e3,e5,n5,hL]); first | done | rfl | (simp only [e3,e5,n5,hL,if_true,if_false,Bool.false_eq_true]; first | done | rfl | (simp (disch:=first|exact dsc|fail) only [go_sem,seval,e3,e5,n5,hL,hSn,hSr,hx1,hx2,hpp,hzz,hzd,han] <;> rfl)))⟩
          · cases ho
            have h0 : L 0 = true := hall ⟨0,.data⟩ (by simp) rfl
            have d0 := g0 h0
            have h3 : L 3 = true := hall ⟨3,.data⟩ (by simp) rfl
            have d3 := g3 h3
            have n5 : L 5 = false := Bool.eq_false_iff.2 fun e => by (have := m5 e; simp [hL] at this)
            (try simp only [h3,n5,if_true,if_false,Bool.false_eq_true])
            refine opA_call rfl rfl (by simp (disch:=first|exact dsc|fail) only [go_sem,seval,reduceIte,Bool.false_eq_true,if_false,if_true,f0,f1,f2,f3,d0,d3,h0,h3,n5,hL,hSn,hSr,hx1,hx2,hpp,hzz,hzd,han] <;> rfl) rfl (by simp (disch:=first|exact dsc|fail) only [go_sem,seval,reduceIte,Bool.false_eq_true,if_false,if_true,f0,f1,f2,f3,d0,d3,h0,h3,n5,hL,hSn,hSr,hx1,hx2,hpp,hzz,hzd,han] <;> rfl) (fun R h => Pair_spec hG0 hG1 x1 x2 hx1 hx2 _ R h) ?_
            exact ⟨(by (try simp (disch:=first|exact dsc|fail) only [go_sem,seval]); exact f0),(by (try simp (disch:=first|exact dsc|fail) only [go_sem,seval]); exact f1),(by (try simp (disch:=first|exact dsc|fail) only [go_sem,seval]); exact f2),(by (try simp (disch:=first|exact dsc|fail) only [go_sem,seval]); exact f3),(fun q => by (rw [more_ne (by decide)] at q); (try simp (disch:=first|exact dsc|fail) only [go_sem,seval]); exact g0 q),(fun q => by (rw [more_ne (by decide)] at q); (try simp (disch:=first|exact dsc|fail) only [go_sem,seval]); exact g1 q),(fun q => by (rw [more_ne (by decide)] at q); (try simp (disch:=first|exact dsc|fail) only [go_sem,seval]); exact g2 q),(fun q => by (rw [more_ne (by decide)] at q); (try simp (disch:=first|exact dsc|fail) only [go_sem,seval]); exact g3 q),(fun _ => by simp (disch:=first|exact dsc|fail) only [go_sem,seval]),(fun q => by (rw [more_ne (by decide)] at q); obtain ⟨q1,q2⟩ := m3 q; exact ⟨more_t q1,more_t q2⟩),(fun _ => ⟨more_t h0,more_t h3⟩),(fun q => by (rw [more_ne (by decide)] at q); obtain ⟨q0,q1,q2,q3,q4⟩ := m5 q; exact ⟨more_t q0,more_t q1,more_t q2,more_t q3,more_t q4⟩),(by (have e3 : more L 4 3 = L 3 := more_ne (by decide)); (have e5 : more L 4 5 = L 5 := more_ne (by decide)); (try simp only [e3,e5,h3,n5]); first | done | rfl | (simp only [e3,e5,h3,n5,if_true,if_false,Bool.false_eq_true]; first | done | rfl | (simp (disch:=first|exact dsc|fail) only [go_sem,seval,e3,e5,h3,n5,hSn,hSr,hx1,hx2,hpp,hzz,hzd,han] <;> rfl)))⟩
          · cases ho
            have h4 : L 4 = true := hall ⟨4,.data⟩ (by simp) rfl
            have d4 := g4 h4
            have h0 : L 0 = true := hall ⟨0,.phase⟩ (by simp) rfl
            have d0 := g0 h0
            have h1 : L 1 = true := hall ⟨1,.phase⟩ (by simp) rfl
            have d1 := g1 h1
            have h2 : L 2 = true := hall ⟨2,.phase⟩ (by simp) rfl
            have d2 := g2 h2
            have h3 : L 3 = true := hall ⟨3,.phase⟩ (by simp) rfl
            have d3 := g3 h3
            refine opA_unit rfl rfl (by simp (disch:=first|exact dsc|fail) only [go_sem,seval,reduceIte,Bool.false_eq_true,if_false,if_true,f0,f1,f2,f3,d0,d1,d2,d3,d4,h0,h1,h2,h3,h4,hL,hSn,hSr,hx1,hx2,hpp,hzz,hzd,han] <;> rfl) rfl ?_
            exact ⟨(by (try simp (disch:=first|exact dsc|fail) only [go_sem,seval]); exact f0),(by (try simp (disch:=first|exact dsc|fail) only [go_sem,seval]); exact f1),(by (try simp (disch:=first|exact dsc|fail) only [go_sem,seval]); exact f2),(by (try simp (disch:=first|exact dsc|fail) only [go_sem,seval]); exact f3),(fun q => by (rw [more_ne (by decide)] at q); (try simp (disch:=first|exact dsc|fail) only [go_sem,seval]); exact g0 q),(fun q => by (rw [more_ne (by decide)] at q); (try simp (disch:=first|exact dsc|fail) only [go_sem,seval]); exact g1 q),(fun q => by (rw [more_ne (by decide)] at q); (try simp (disch:=first|exact dsc|fail) only [go_sem,seval]); exact g2 q),(fun q => by (rw [more_ne (by decide)] at q); (try simp (disch:=first|exact dsc|fail) only [go_sem,seval]); exact g3 q),(fun q => by (rw [more_ne (by decide)] at q); (try simp (disch:=first|exact dsc|fail) only [go_sem,seval]); exact g4 q),(fun q => by (rw [more_ne (by decide)] at q); obtain ⟨q1,q2⟩ := m3 q; exact ⟨more_t q1,more_t q2⟩),(fun q => by (rw [more_ne (by decide)] at q); obtain ⟨q0,q3⟩ := m4 q; exact ⟨more_t q0,more_t q3⟩),(fun _ => ⟨more_t h0,more_t h1,more_t h2,more_t h3,more_t h4⟩),(by (have e3 : more L 5 3 = L 3 := more_ne (by decide)); (have e5 : more L 5 5 = true := more_eq); (try simp only [e3,e5,h3,hL]); first | done | rfl | (simp only [e3,e5,h3,hL,if_true,if_false,Bool.false_eq_true]; first | done | rfl | (simp (disch:=first|exact dsc|fail) only [go_sem,seval,e3,e5,h3,hL,hSn,hSr,hx1,hx2,hpp,hzz,hzd,han] <;> rfl)))⟩
          · simp at ho
        · intro L env' H' hall hI
          obtain ⟨f0,f1,f2,f3,g0,g1,g2,g3,g4,_,_,_,rfl⟩ := hI
          have l3 := hall 3 (by decide)
          have l5 := hall 5 (by decide)
          replace g0 := g0 (hall 0 (by decide))
          replace g1 := g1 (hall 1 (by decide))
          replace g2 := g2 (hall 2 (by decide))
          replace g3 := g3 (hall 3 (by decide))
          replace g4 := g4 (hall 4 (by decide))
          simp only [l3,l5,if_true]
          clear hall
          have hSn2 := hSn true
          have hbel := hSb
          (repeat refine .z rfl ?_); refine .rt Tryd.func50 (by rw [Tryd.results50]) (hx := by simp (disch:=first|exact dsc|fail) only [go_sem,seval,f1,hSn]; rfl) (hR := ?_); simp (disch:=first|exact dsc|fail) only [go_sem,seval,f1,hSn]
          exact h
end walks
end Go.Proofs.YthonhnpiglafkaaDoor

/-
  Hash trees: Verify.
-/
namespace Go.Proofs.YthonhnpiglafkaaDoor
open Go Go.AL

def verR (n : Nat) (idx : List Int) (B N : List By) : By × List By × List By × Bool := rebF n idx 0 n B N true
def verC (n : Int) (idx : List Int) (B : List By) : Nat := if n < 1 ∨ B.length ≠ idx.length then 1 else chkE n idx
def verE (root : By) (n : Int) (idx : List Int) (B N : List By) : Nat :=
  if verC n idx B = 0 then if (verR n.toNat idx B N).2.2.1 = [] ∧ (verR n.toNat idx B N).2.2.2 = true ∧ (verR n.toNat idx B N).1 = root then 0 else 80 else verC n idx B

theorem opA_valH {C : Cx} {ops : Array Oper} {i : Nat} {o : Oper} {K : Env → Hp → Prop} {env : Env} {H H' : Hp} (x : AV) (ho : ops[i]? = some o) (hg : o.guard = none) (hs : stepOp C.P C.G o.op o.type env H = .val x H') (hd : dstOK C.nt o.dst = true)
    (hK : K (env.put o.dst x) H') : opA C ops false i K env H := by
  unfold opA
  rw [ho]
  simp only [hg,wantedA,aOp1,hs,sOp]
  exact ⟨hd,hK⟩
section lists
variable {α : Type} {T : List α} {i : Nat} {x y : α}
theorem get_push (h : T[i]? = some x) : (T ++ [y])[i]? = some x := by rw [List.getElem?_append_left (List.getElem?_eq_some_iff.1 h).1]; exact h
theorem get_last : (T ++ [y])[T.length]? = some y := by simp
theorem lt_get (h : T[i]? = some x) : i < T.length := (List.getElem?_eq_some_iff.1 h).1
end lists
theorem bel_push {T : List AB} {m : Nat} {X : AB} (gb : ∀ (i : Nat) (x : AB),T[i]? = some x → ∀ y ∈ x.vals,BelowN (m + T.length) y) (hX : ∀ y ∈ X.vals,BelowN (m + T.length) y) :
    ∀ (i : Nat) (x : AB),(T ++ [X])[i]? = some x → ∀ y ∈ x.vals,BelowN (m + (T ++ [X]).length) y := by
  intro i x hx y hy
  rw [List.length_append,List.length_singleton]
  rcases Nat.lt_or_ge i T.length with hlt | hge
  · rw [List.getElem?_append_left hlt] at hx
    exact (gb i x hx y hy).mono (by omega)
  · rw [List.getElem?_append_right hge] at hx
    rcases hz : i - T.length with _ | z <;> rw [hz] at hx <;> simp at hx
    subst hx
    exact (hX y hy).mono (by omega)
theorem bel_setT {T : List AB} {m a : Nat} {X : AB} (gb : ∀ (i : Nat) (x : AB),T[i]? = some x → ∀ y ∈ x.vals,BelowN (m + T.length) y) (hX : ∀ y ∈ X.vals,BelowN (m + T.length) y) :
    ∀ (i : Nat) (x : AB),(T.set a X)[i]? = some x → ∀ y ∈ x.vals,BelowN (m + (T.set a X).length) y := by
  intro i x hx y hy
  rw [List.length_set]
  by_cases e : a = i
  · subst e
    have hlt : a < T.length := by have := (List.getElem?_eq_some_iff.1 hx).1; rw [List.length_set] at this; exact this
    rw [List.getElem?_set_self hlt] at hx
    cases hx
    exact hX y hy
  · rw [List.getElem?_set_ne e] at hx
    exact gb i x hx y hy

theorem bel_appT {T : List AB} {m : Nat} {H0 : Hp} (hn : H0.n = m) (h : Bel m H0) (gb : ∀ (i : Nat) (x : AB),T[i]? = some x → ∀ y ∈ x.vals,BelowN (m + T.length) y) : Bel (m + T.length) (app H0 T) := by
  intro b x hb hf y hy
  rcases Nat.lt_or_ge b m with hlt | hge
  · rw [app_f (by omega)] at hf
    exact (h b x hlt hf y hy).mono (by omega)
  · obtain ⟨i,rfl⟩ : ∃ i,b = H0.n + i := ⟨b - m,by omega⟩
    rw [app_at] at hf
    exact gb i x hf y hy
theorem set_same {α : Type} {T : List α} {i : Nat} {x : α} (h : T[i]? = some x) : T.set i x = T := by
  refine List.ext_getElem? fun j => ?_
  by_cases e : i = j
  · subst e; rw [List.getElem?_set_self (lt_get h),h]
  · rw [List.getElem?_set_ne e]
abbrev lvC (l : List By) : AB := .cells [.p (.sl false 1 (pl bs l))]
abbrev nvC (d : List By) : AB := .cells [.p (.sl false 32 (pl db d))]
def verF (H0 : Hp) (T : List AB) (a2 a5 : Nat) (l d : List By) : Hp := app H0 ((T.set a2 (lvC l)).set a5 (nvC d))
section fam
variable {H0 : Hp} {m a2 a5 a6 a7 : Nat} {T : List AB} {B N : List By}
theorem verF_n (hn : H0.n = m) (l d : List By) : (verF H0 T a2 a5 l d).n = m + T.length := by
  unfold verF; rw [app_n',hn,List.length_set,List.length_set]
theorem verF_at (hn : H0.n = m) {l d : List By} {a : Nat} {x : AB} (h : T[a]? = some x) (h2 : a ≠ a2) (h5 : a ≠ a5) : (verF H0 T a2 a5 l d).f (m + a) = some x := by
  unfold verF; rw [← hn,app_at,List.getElem?_set_ne h5.symm,List.getElem?_set_ne h2.symm,h]
theorem ver_fam (hn : H0.n = m) (hb : Bel m H0) (t2 : T[a2]? = some (lvC B)) (t5 : T[a5]? = some (nvC N))
    (t6 : T[a6]? = some (.cells [.clo 70 [] [.ptr (m + a2) 0]])) (t7 : T[a7]? = some (.cells [.clo 71 [] [.ptr (m + a5) 0]]))
    (gb : ∀ (i : Nat) (x : AB),T[i]? = some x → ∀ y ∈ x.vals,BelowN (m + T.length) y) :
    Fam (fun l d c => ((verF H0 T a2 a5 l d).new (.cells [.p (bo c)])).new (.cells [.clo 50 [] [.ptr (m + a7) 0,.ptr (m + T.length) 0,.ptr (m + a6) 0,.ptr (m + T.length + 1) 0]])) (m + T.length + 2) (m + a7) (m + T.length) (m + a6) (m + T.length + 1) (m + a2) (m + a5) := by
  have l2 := lt_get t2
  have l5 := lt_get t5
  have l6 := lt_get t6
  have l7 := lt_get t7
  have h25 : a2 ≠ a5 := fun e => by rw [e,t5] at t2; cases t2
  have h62 : a6 ≠ a2 := fun e => by rw [e,t2] at t6; cases t6
  have h65 : a6 ≠ a5 := fun e => by rw [e,t5] at t6; cases t6
  have h72 : a7 ≠ a2 := fun e => by rw [e,t2] at t7; cases t7
  have h75 : a7 ≠ a5 := fun e => by rw [e,t5] at t7; cases t7
  have hVn := verF_n (T := T) (a2 := a2) (a5 := a5) hn
  have up : ∀ {l d : List By} {c : Bool} {X : AB} {b : Nat} {x : AB},b < m + T.length → (verF H0 T a2 a5 l d).f b = some x → (((verF H0 T a2 a5 l d).new (.cells [.p (bo c)])).new X).f b = some x := by
    intro l d c X b x hb h
    rw [f_new_ne (by rw [n_new',hVn]; omega),f_new_ne (by rw [hVn]; omega)]; exact h
  have st : ∀ {l d : List By} {c : Bool} {X Y : AB} {b : Nat},b < m + T.length → (((verF H0 T a2 a5 l d).new (.cells [.p (bo c)])).new X).set b Y = (((verF H0 T a2 a5 l d).set b Y).new (.cells [.p (bo c)])).new X := by
    intro l d c X Y b hb
    rw [set_new_ne (by rw [n_new',hVn]; omega),set_new_ne (by rw [hVn]; omega)]
  refine ⟨fun l d c => by rw [n_new',n_new',hVn],fun l d c => ?_,fun l d c => up (by omega) (verF_at hn t7 h72 h75),fun l d c => ?_,fun l d c => up (by omega) (verF_at hn t6 h62 h65),fun l d c => ?_,fun l d c => up (by omega) ?_,fun l d c => up (by omega) ?_,fun l d c l' => ?_,fun l d c d' => ?_,fun l d c c' => ?_⟩
  · have hgb : ∀ (i : Nat) (x : AB),((T.set a2 (lvC l)).set a5 (nvC d))[i]? = some x → ∀ y ∈ x.vals,BelowN (m + ((T.set a2 (lvC l)).set a5 (nvC d)).length) y :=
      bel_setT (bel_setT gb (fun y hy => by simp [AB.vals] at hy; subst hy; exact .p _)) (fun y hy => by simp [AB.vals] at hy; subst hy; exact .p _)
    have hB := bel_appT hn hb hgb
    have hll : ((T.set a2 (lvC l)).set a5 (nvC d)).length = T.length := by rw [List.length_set,List.length_set]
    rw [hll] at hB
    have hVl := hVn l d
    refine bel_newx (bel_newx (bel_mono (m := m + T.length) (H := verF H0 T a2 a5 l d) hB (Nat.le_of_eq hVl) (by omega)) fun y hy => ?_) fun y hy => ?_
    · simp [AB.vals] at hy; subst hy; exact .p _
    · simp [AB.vals] at hy; subst hy
      exact .clo _ _ _ (fun _ _ h => by simp at h) (fun i z hz => by rcases i with _ | _ | _ | _ | i <;> simp at hz <;> subst hz <;> exact .ptr _ _ (by omega))
  · rw [f_new_ne (by rw [n_new',hVn]; omega),f_new_eq (by rw [hVn])]
  · rw [f_new_eq (by rw [n_new',hVn])]
  · unfold verF; rw [← hn,app_at,List.getElem?_set_ne h25.symm,List.getElem?_set_self (by omega)]
  · unfold verF; rw [← hn,app_at,List.getElem?_set_self (by rw [List.length_set]; omega)]
  · rw [st (by omega)]; unfold verF; rw [← hn,app_set_hi (by rw [List.length_set,List.length_set]; omega),List.set_comm _ _ h25,List.set_set,List.set_comm _ _ h25.symm]
  · rw [st (by omega)]; unfold verF; rw [← hn,app_set_hi (by rw [List.length_set,List.length_set]; omega),List.set_set]
  · rw [set_new_ne (by rw [n_new',hVn]; omega),set_new_eq (by rw [hVn])]
end fam
section walks
variable {G : Globs}
set_option maxRecDepth 20000 in
set_option maxHeartbeats 16000000 in
theorem Verify_spec (hG : GS G) (root : By) (hroot : root.length = 32) (n : Int) (hn1 : -9223372036854775808 ≤ n) (hn2 : n ≤ 9223372036854775807) (idx : List Int) (hil : idx.length ≤ 100000) (B N : List By) (hB : Short B) (hBl : B.length ≤ 100000) (hN : ∀ d ∈ N,d.length = 32) (hNl : N.length ≤ 100000)
    (H : Hp) (R : AV → Hp → Prop) (h : R (.p (i64 (verE root n idx B N : Nat))) H) :
    ACall Tryd.prog G 22 [.p (.agg (pl b8 root)),.p (i64 n),.p (.agg [.sl false 1 (pl i64 idx),.sl false 1 (pl bs B)]),.p (.agg [.sl false 32 (pl db N)])] H R := by
  have hG' := hG
  obtain ⟨hG0,hG1⟩ := hG
  refine ACall.of_run (raw := []) Tryd.func22 rfl Tryd.ntmps22 (by simp) fun hbel => ?_
  (repeat refine .z rfl ?_); refine .text ?_; simp (disch:=first|exact dsc|fail) only [go_sem,seval,hroot]
  (repeat refine .z rfl ?_); refine .text ?_; simp (disch:=first|exact dsc|fail) only [go_sem,seval]
  refine CallK.of (fun R h => check_spec n hn1 hn2 idx (by omega) _ R h) ?_; simp (disch:=first|exact dsc|fail) only [go_sem,seval]
  by_cases hlt : n < 1
  · have d1 : decide (n < 1) = true := decide_eq_true hlt
    have hv : verE root n idx B N = 1 := by
      have : verC n idx B = 1 := if_pos (.inl hlt)
      rw [verE,this]; rfl
    rw [hv] at h
    (repeat refine .z rfl ?_); refine .text ?_; simp (disch:=first|exact dsc|fail) only [go_sem,seval,d1]
    (repeat refine .z rfl ?_); refine .ifT (by simp (disch:=first|exact dsc|fail) only [go_sem,seval,d1]) ?_
    (repeat refine .z rfl ?_); refine .text ?_; simp (disch:=first|exact dsc|fail) only [go_sem,seval]
    (repeat refine .z rfl ?_); refine .text ?_; simp (disch:=first|exact dsc|fail) only [go_sem,seval]
    (repeat refine .z rfl ?_); refine .ifT (by simp (disch:=first|exact dsc|fail) only [go_sem,seval]) ?_
    (repeat refine .z rfl ?_); refine .text ?_; simp (disch:=first|exact dsc|fail) only [go_sem,seval]
    (repeat refine .z rfl ?_); refine .rt Tryd.func22 (by rw [Tryd.results22]) (hR := ?_); simp (disch:=first|exact dsc|fail) only [go_sem,seval]
    exact h
  · have d1 : decide (n < 1) = false := decide_eq_false hlt
    by_cases hne : B.length = idx.length
    · have d2 : ((B.length : Int) != (idx.length : Int)) = false := by rw [hne]; simp
      have hc : verC n idx B = chkE n idx := if_neg (by rintro (h | h); exact hlt h; exact h hne)
      (repeat refine .z rfl ?_); refine .text ?_; simp (disch:=first|exact dsc|fail) only [go_sem,seval,d1,d2]
      (repeat refine .z rfl ?_); refine .ifF (by simp (disch:=first|exact dsc|fail) only [go_sem,seval,d1,d2]) ?_
      by_cases h0 : chkE n idx = 0
      · have d3 : (((chkE n idx : Nat) : Int) != 0) = false := by rw [h0]; rfl
        (repeat refine .z rfl ?_); refine .text ?_; simp (disch:=first|exact dsc|fail) only [go_sem,seval,d3]
        (repeat refine .z rfl ?_); refine .ifF (by simp (disch:=first|exact dsc|fail) only [go_sem,seval,d3]) ?_
        (repeat refine .z rfl ?_)
        obtain ⟨H0,hH0⟩ : ∃ H0,H0 = (((H.new (.cells (cl b8 root))).new (.cells [.p (.sl false 1 (pl i64 idx)),.p (.sl false 1 (pl bs B))])).new (.cells [.p (.sl false 32 (pl db N))])) := ⟨_,rfl⟩
        rw [← hH0]
        have hn0 : H0.n = H.n + 3 := by rw [hH0]; simp (disch:=first|exact dsc|fail) only [go_sem,seval]
        have q0 : H0.f H.n = some (.cells (cl b8 root)) := by rw [hH0]; simp (disch:=first|exact dsc|fail) only [go_sem,seval]
        have q1 : H0.f (H.n + 1) = some (.cells [.p (.sl false 1 (pl i64 idx)),.p (.sl false 1 (pl bs B))]) := by rw [hH0]; simp (disch:=first|exact dsc|fail) only [go_sem,seval]
        have q2 : H0.f (H.n + 2) = some (.cells [.p (.sl false 32 (pl db N))]) := by rw [hH0]; simp (disch:=first|exact dsc|fail) only [go_sem,seval]
        have ht0 : H0.trunc H.n = H := by rw [hH0]; simp (disch:=first|exact dsc|fail) only [go_sem,seval]
        have hb0 : Bel (H.n + 3) H0 := by
          rw [hH0]
          refine bel_p1 (bel_newx (bel_clb (bel_start hbel (by omega))) fun z hz => by simp [AB.vals] at hz; rcases hz with rfl | rfl <;> exact .p _)
        have hbl0 : Bel H.n H0 := by
          rw [hH0]
          exact bel_new (bel_new (bel_new hbel (by omega)) (by simp (disch:=first|exact dsc|fail) only [go_sem,seval]; omega)) (by simp (disch:=first|exact dsc|fail) only [go_sem,seval]; omega)
        -- REGION6
        refine .openInv (fun L env' H' => ∃ T a2 a5 a6 a7,H' = app H0 T ∧ (env' 1 = .p (i64 n) ∧ env' 4 = .ptr H.n 0 ∧ env' 6 = .ptr (H.n + 1) 0 ∧ env' 7 = .ptr (H.n + 2) 0 ∧ env' 8 = .p (i64 0)) ∧ (L 0 = true → env' 35 = .ptr (H.n + 1) 1) ∧ (L 1 = true → env' 36 = .p (.sl false 1 (pl bs B))) ∧ (L 3 = true → env' 38 = .ptr (H.n + 2) 0) ∧ (L 4 = true → env' 39 = .p (.sl false 32 (pl db N))) ∧ (L 2 = true → env' 37 = .clo 70 [] [.ptr (H.n + 3 + a2) 0] ∧ T[a2]? = some (.cells [.p (.sl false 1 (pl bs B))])) ∧ (L 5 = true → env' 40 = .clo 71 [] [.ptr (H.n + 3 + a5) 0] ∧ T[a5]? = some (.cells [.p (.sl false 32 (pl db N))])) ∧ (L 6 = true → env' 10 = .ptr (H.n + 3 + a6) 0 ∧ T[a6]? = some (.cells [if L 8 then .clo 70 [] [.ptr (H.n + 3 + a2) 0] else .p (.s .nilFunc)])) ∧ (L 7 = true → env' 11 = .ptr (H.n + 3 + a7) 0 ∧ T[a7]? = some (.cells [if L 9 then .clo 71 [] [.ptr (H.n + 3 + a5) 0] else .p (.s .nilFunc)])) ∧ (L 6 = true → L 7 = true → a6 ≠ a7) ∧ (∀ j,(j = 2 ∨ j = 5 ∨ j = 6 ∨ j = 7) → L 8 = true → L j = true) ∧ (L 9 = true → L 8 = true) ∧ (∀ (i : Nat) (x : AB),T[i]? = some x → ∀ y ∈ x.vals,BelowN (H.n + 3 + T.length) y)) follows (by kernel_rfl) ?_ ?_ ?_
        · exact ⟨[],0,0,0,0,rfl,⟨(by simp (disch:=first|exact dsc|fail) only [go_sem,seval]),(by simp (disch:=first|exact dsc|fail) only [go_sem,seval]),(by simp (disch:=first|exact dsc|fail) only [go_sem,seval]),(by simp (disch:=first|exact dsc|fail) only [go_sem,seval]),(by simp (disch:=first|exact dsc|fail) only [go_sem,seval])⟩,(fun h => by cases h),(fun h => by cases h),(fun h => by cases h),(fun h => by cases h),(fun h => by cases h),(fun h => by cases h),(fun h => by cases h),(fun h => by cases h),(fun h => by cases h),(fun _ _ h => by cases h),(fun h => by cases h),(fun i x h => by simp at h)⟩
        · intro i o L env' H' ho hL hall hI
          obtain ⟨T,a2,a5,a6,a7,rfl,⟨f1,f4,f6,f7,f8⟩,g0,g1,g3,g4,g2,g5,g6,g7,gd,gx,g9,gb⟩ := hI
          have hnT : (app H0 T).n = H.n + 3 + T.length := by rw [app_n',hn0]
          rcases i with _ | _ | _ | _ | _ | _ | _ | _ | _ | _ | i
          · cases ho
            refine opA_val (.ptr (H.n + 1) 1) rfl rfl (by simp (disch:=first|exact dsc|fail) only [go_sem,seval,f1,f4,f6,f7,f8,app_f' q1] <;> rfl) rfl ?_
            exact ⟨T,a2,a5,a6,a7,rfl,⟨(by (try simp (disch:=first|exact dsc|fail) only [go_sem,seval]); exact f1),(by (try simp (disch:=first|exact dsc|fail) only [go_sem,seval]); exact f4),(by (try simp (disch:=first|exact dsc|fail) only [go_sem,seval]); exact f6),(by (try simp (disch:=first|exact dsc|fail) only [go_sem,seval]); exact f7),(by (try simp (disch:=first|exact dsc|fail) only [go_sem,seval]); exact f8)⟩,(fun _ => by simp (disch:=first|exact dsc|fail) only [go_sem,seval]),(fun q => by (rw [more_ne (by decide)] at q); (try simp (disch:=first|exact dsc|fail) only [go_sem,seval]); exact g1 q),(fun q => by (rw [more_ne (by decide)] at q); (try simp (disch:=first|exact dsc|fail) only [go_sem,seval]); exact g3 q),(fun q => by (rw [more_ne (by decide)] at q); (try simp (disch:=first|exact dsc|fail) only [go_sem,seval]); exact g4 q),(fun q => by (rw [more_ne (by decide)] at q); (try simp (disch:=first|exact dsc|fail) only [go_sem,seval]); exact g2 q),(fun q => by (rw [more_ne (by decide)] at q); (try simp (disch:=first|exact dsc|fail) only [go_sem,seval]); exact g5 q),(fun q => by (rw [more_ne (by decide)] at q); (try simp (disch:=first|exact dsc|fail) only [go_sem,seval]); obtain ⟨u1,u2⟩ := g6 q; exact ⟨u1,by rw [more_ne (show 8 ≠ 0 by decide)]; exact u2⟩),(fun q => by (rw [more_ne (by decide)] at q); (try simp (disch:=first|exact dsc|fail) only [go_sem,seval]); obtain ⟨u1,u2⟩ := g7 q; exact ⟨u1,by rw [more_ne (show 9 ≠ 0 by decide)]; exact u2⟩),(fun p q => by (rw [more_ne (by decide)] at p q); exact gd p q),(fun j hj q => by (rw [more_ne (by decide)] at q); exact more_t (gx j hj q)),(fun q => by (rw [more_ne (by decide)] at q); exact more_t (g9 q)),gb⟩
          · cases ho
            have h0 : L 0 = true := hall ⟨0,.data⟩ (by simp) rfl
            refine opA_val (.p (.sl false 1 (pl bs B))) rfl rfl (by simp (disch:=first|exact dsc|fail) only [go_sem,seval,f1,f4,f6,f7,f8,g0 h0,app_f' q1] <;> rfl) rfl ?_
            exact ⟨T,a2,a5,a6,a7,rfl,⟨(by (try simp (disch:=first|exact dsc|fail) only [go_sem,seval]); exact f1),(by (try simp (disch:=first|exact dsc|fail) only [go_sem,seval]); exact f4),(by (try simp (disch:=first|exact dsc|fail) only [go_sem,seval]); exact f6),(by (try simp (disch:=first|exact dsc|fail) only [go_sem,seval]); exact f7),(by (try simp (disch:=first|exact dsc|fail) only [go_sem,seval]); exact f8)⟩,(fun q => by (rw [more_ne (by decide)] at q); (try simp (disch:=first|exact dsc|fail) only [go_sem,seval]); exact g0 q),(fun _ => by simp (disch:=first|exact dsc|fail) only [go_sem,seval]),(fun q => by (rw [more_ne (by decide)] at q); (try simp (disch:=first|exact dsc|fail) only [go_sem,seval]); exact g3 q),(fun q => by (rw [more_ne (by decide)] at q); (try simp (disch:=first|exact dsc|fail) only [go_sem,seval]); exact g4 q),(fun q => by (rw [more_ne (by decide)] at q); (try simp (disch:=first|exact dsc|fail) only [go_sem,seval]); exact g2 q),(fun q => by (rw [more_ne (by decide)] at q); (try simp (disch:=first|exact dsc|fail) only [go_sem,seval]); exact g5 q),(fun q => by (rw [more_ne (by decide)] at q); (try simp (disch:=first|exact dsc|fail) only [go_sem,seval]); obtain ⟨u1,u2⟩ := g6 q; exact ⟨u1,by rw [more_ne (show 8 ≠ 1 by decide)]; exact u2⟩),(fun q => by (rw [more_ne (by decide)] at q); (try simp (disch:=first|exact dsc|fail) only [go_sem,seval]); obtain ⟨u1,u2⟩ := g7 q; exact ⟨u1,by rw [more_ne (show 9 ≠ 1 by decide)]; exact u2⟩),(fun p q => by (rw [more_ne (by decide)] at p q); exact gd p q),(fun j hj q => by (rw [more_ne (by decide)] at q); exact more_t (gx j hj q)),(fun q => by (rw [more_ne (by decide)] at q); exact more_t (g9 q)),gb⟩
          · cases ho
            have h1 : L 1 = true := hall ⟨1,.data⟩ (by simp) rfl
            have n8 : L 8 = false := Bool.eq_false_iff.2 fun e => by (have := gx 2 (by decide) e; rw [hL] at this; cases this)
            have n9 : L 9 = false := Bool.eq_false_iff.2 fun e => by (have := g9 e; rw [n8] at this; cases this)
            refine opA_call rfl rfl (by simp (disch:=first|exact dsc|fail) only [go_sem,seval,g1 h1] <;> rfl) rfl (by simp (disch:=first|exact dsc|fail) only [go_sem,seval] <;> rfl) (fun R h => sourceB_spec B _ R h) ?_
            rw [app_push,hnT]
            exact ⟨T ++ [.cells [.p (.sl false 1 (pl bs B))]],T.length,a5,a6,a7,rfl,⟨(by (try simp (disch:=first|exact dsc|fail) only [go_sem,seval]); exact f1),(by (try simp (disch:=first|exact dsc|fail) only [go_sem,seval]); exact f4),(by (try simp (disch:=first|exact dsc|fail) only [go_sem,seval]); exact f6),(by (try simp (disch:=first|exact dsc|fail) only [go_sem,seval]); exact f7),(by (try simp (disch:=first|exact dsc|fail) only [go_sem,seval]); exact f8)⟩,(fun q => by (rw [more_ne (by decide)] at q); (try simp (disch:=first|exact dsc|fail) only [go_sem,seval]); exact g0 q),(fun q => by (rw [more_ne (by decide)] at q); (try simp (disch:=first|exact dsc|fail) only [go_sem,seval]); exact g1 q),(fun q => by (rw [more_ne (by decide)] at q); (try simp (disch:=first|exact dsc|fail) only [go_sem,seval]); exact g3 q),(fun q => by (rw [more_ne (by decide)] at q); (try simp (disch:=first|exact dsc|fail) only [go_sem,seval]); exact g4 q),(fun _ => ⟨by simp (disch:=first|exact dsc|fail) only [go_sem,seval],get_last⟩),(fun q => by (rw [more_ne (by decide)] at q); (try simp (disch:=first|exact dsc|fail) only [go_sem,seval]); exact ⟨(g5 q).1,get_push (g5 q).2⟩),(fun q => by (rw [more_ne (by decide)] at q); (try simp (disch:=first|exact dsc|fail) only [go_sem,seval]); obtain ⟨u1,u2⟩ := g6 q; refine ⟨u1,?_⟩; rw [n8,if_neg (by decide)] at u2; rw [more_ne (show 8 ≠ 2 by decide),n8,if_neg (by decide)]; exact get_push u2),(fun q => by (rw [more_ne (by decide)] at q); (try simp (disch:=first|exact dsc|fail) only [go_sem,seval]); obtain ⟨u1,u2⟩ := g7 q; refine ⟨u1,?_⟩; rw [n9,if_neg (by decide)] at u2; rw [more_ne (show 9 ≠ 2 by decide),n9,if_neg (by decide)]; exact get_push u2),(fun p q => by (rw [more_ne (by decide)] at p q); exact gd p q),(fun j hj q => by (rw [more_ne (by decide)] at q); exact more_t (gx j hj q)),(fun q => by (rw [more_ne (by decide)] at q); exact more_t (g9 q)),(bel_push gb (fun y hy => by (simp [AB.vals] at hy); subst hy; exact .p _))⟩
          · cases ho
            refine opA_val (.ptr (H.n + 2) 0) rfl rfl (by simp (disch:=first|exact dsc|fail) only [go_sem,seval,f1,f4,f6,f7,f8] <;> rfl) rfl ?_
            exact ⟨T,a2,a5,a6,a7,rfl,⟨(by (try simp (disch:=first|exact dsc|fail) only [go_sem,seval]); exact f1),(by (try simp (disch:=first|exact dsc|fail) only [go_sem,seval]); exact f4),(by (try simp (disch:=first|exact dsc|fail) only [go_sem,seval]); exact f6),(by (try simp (disch:=first|exact dsc|fail) only [go_sem,seval]); exact f7),(by (try simp (disch:=first|exact dsc|fail) only [go_sem,seval]); exact f8)⟩,(fun q => by (rw [more_ne (by decide)] at q); (try simp (disch:=first|exact dsc|fail) only [go_sem,seval]); exact g0 q),(fun q => by (rw [more_ne (by decide)] at q); (try simp (disch:=first|exact dsc|fail) only [go_sem,seval]); exact g1 q),(fun _ => by simp (disch:=first|exact dsc|fail) only [go_sem,seval]),(fun q => by (rw [more_ne (by decide)] at q); (try simp (disch:=first|exact dsc|fail) only [go_sem,seval]); exact g4 q),(fun q => by (rw [more_ne (by decide)] at q); (try simp (disch:=first|exact dsc|fail) only [go_sem,seval]); exact g2 q),(fun q => by (rw [more_ne (by decide)] at q); (try simp (disch:=first|exact dsc|fail) only [go_sem,seval]); exact g5 q),(fun q => by (rw [more_ne (by decide)] at q); (try simp (disch:=first|exact dsc|fail) only [go_sem,seval]); obtain ⟨u1,u2⟩ := g6 q; exact ⟨u1,by rw [more_ne (show 8 ≠ 3 by decide)]; exact u2⟩),(fun q => by (rw [more_ne (by decide)] at q); (try simp (disch:=first|exact dsc|fail) only [go_sem,seval]); obtain ⟨u1,u2⟩ := g7 q; exact ⟨u1,by rw [more_ne (show 9 ≠ 3 by decide)]; exact u2⟩),(fun p q => by (rw [more_ne (by decide)] at p q); exact gd p q),(fun j hj q => by (rw [more_ne (by decide)] at q); exact more_t (gx j hj q)),(fun q => by (rw [more_ne (by decide)] at q); exact more_t (g9 q)),gb⟩
          · cases ho
            have h3 : L 3 = true := hall ⟨3,.data⟩ (by simp) rfl
            refine opA_val (.p (.sl false 32 (pl db N))) rfl rfl (by simp (disch:=first|exact dsc|fail) only [go_sem,seval,f1,f4,f6,f7,f8,g3 h3,app_f' q2] <;> rfl) rfl ?_
            exact ⟨T,a2,a5,a6,a7,rfl,⟨(by (try simp (disch:=first|exact dsc|fail) only [go_sem,seval]); exact f1),(by (try simp (disch:=first|exact dsc|fail) only [go_sem,seval]); exact f4),(by (try simp (disch:=first|exact dsc|fail) only [go_sem,seval]); exact f6),(by (try simp (disch:=first|exact dsc|fail) only [go_sem,seval]); exact f7),(by (try simp (disch:=first|exact dsc|fail) only [go_sem,seval]); exact f8)⟩,(fun q => by (rw [more_ne (by decide)] at q); (try simp (disch:=first|exact dsc|fail) only [go_sem,seval]); exact g0 q),(fun q => by (rw [more_ne (by decide)] at q); (try simp (disch:=first|exact dsc|fail) only [go_sem,seval]); exact g1 q),(fun q => by (rw [more_ne (by decide)] at q); (try simp (disch:=first|exact dsc|fail) only [go_sem,seval]); exact g3 q),(fun _ => by simp (disch:=first|exact dsc|fail) only [go_sem,seval]),(fun q => by (rw [more_ne (by decide)] at q); (try simp (disch:=first|exact dsc|fail) only [go_sem,seval]); exact g2 q),(fun q => by (rw [more_ne (by decide)] at q); (try simp (disch:=first|exact dsc|fail) only [go_sem,seval]); exact g5 q),(fun q => by (rw [more_ne (by decide)] at q); (try simp (disch:=first|exact dsc|fail) only [go_sem,seval]); obtain ⟨u1,u2⟩ := g6 q; exact ⟨u1,by rw [more_ne (show 8 ≠ 4 by decide)]; exact u2⟩),(fun q => by (rw [more_ne (by decide)] at q); (try simp (disch:=first|exact dsc|fail) only [go_sem,seval]); obtain ⟨u1,u2⟩ := g7 q; exact ⟨u1,by rw [more_ne (show 9 ≠ 4 by decide)]; exact u2⟩),(fun p q => by (rw [more_ne (by decide)] at p q); exact gd p q),(fun j hj q => by (rw [more_ne (by decide)] at q); exact more_t (gx j hj q)),(fun q => by (rw [more_ne (by decide)] at q); exact more_t (g9 q)),gb⟩
          · cases ho
            have h2 : L 2 = true := hall ⟨2,.chain⟩ (by simp) rfl
            have h4 : L 4 = true := hall ⟨4,.data⟩ (by simp) rfl
            have n8 : L 8 = false := Bool.eq_false_iff.2 fun e => by (have := gx 5 (by decide) e; rw [hL] at this; cases this)
            have n9 : L 9 = false := Bool.eq_false_iff.2 fun e => by (have := g9 e; rw [n8] at this; cases this)
            refine opA_call rfl rfl (by simp (disch:=first|exact dsc|fail) only [go_sem,seval,g4 h4] <;> rfl) rfl (by simp (disch:=first|exact dsc|fail) only [go_sem,seval] <;> rfl) (fun R h => sourceD_spec N _ R h) ?_
            rw [app_push,hnT]
            exact ⟨T ++ [.cells [.p (.sl false 32 (pl db N))]],a2,T.length,a6,a7,rfl,⟨(by (try simp (disch:=first|exact dsc|fail) only [go_sem,seval]); exact f1),(by (try simp (disch:=first|exact dsc|fail) only [go_sem,seval]); exact f4),(by (try simp (disch:=first|exact dsc|fail) only [go_sem,seval]); exact f6),(by (try simp (disch:=first|exact dsc|fail) only [go_sem,seval]); exact f7),(by (try simp (disch:=first|exact dsc|fail) only [go_sem,seval]); exact f8)⟩,(fun q => by (rw [more_ne (by decide)] at q); (try simp (disch:=first|exact dsc|fail) only [go_sem,seval]); exact g0 q),(fun q => by (rw [more_ne (by decide)] at q); (try simp (disch:=first|exact dsc|fail) only [go_sem,seval]); exact g1 q),(fun q => by (rw [more_ne (by decide)] at q); (try simp (disch:=first|exact dsc|fail) only [go_sem,seval]); exact g3 q),(fun q => by (rw [more_ne (by decide)] at q); (try simp (disch:=first|exact dsc|fail) only [go_sem,seval]); exact g4 q),(fun q => by (rw [more_ne (by decide)] at q); (try simp (disch:=first|exact dsc|fail) only [go_sem,seval]); exact ⟨(g2 q).1,get_push (g2 q).2⟩),(fun _ => ⟨by simp (disch:=first|exact dsc|fail) only [go_sem,seval],get_last⟩),(fun q => by (rw [more_ne (by decide)] at q); (try simp (disch:=first|exact dsc|fail) only [go_sem,seval]); obtain ⟨u1,u2⟩ := g6 q; refine ⟨u1,?_⟩; rw [n8,if_neg (by decide)] at u2; rw [more_ne (show 8 ≠ 5 by decide),n8,if_neg (by decide)]; exact get_push u2),(fun q => by (rw [more_ne (by decide)] at q); (try simp (disch:=first|exact dsc|fail) only [go_sem,seval]); obtain ⟨u1,u2⟩ := g7 q; refine ⟨u1,?_⟩; rw [n9,if_neg (by decide)] at u2; rw [more_ne (show 9 ≠ 5 by decide),n9,if_neg (by decide)]; exact get_push u2),(fun p q => by (rw [more_ne (by decide)] at p q); exact gd p q),(fun j hj q => by (rw [more_ne (by decide)] at q); exact more_t (gx j hj q)),(fun q => by (rw [more_ne (by decide)] at q); exact more_t (g9 q)),(bel_push gb (fun y hy => by (simp [AB.vals] at hy); subst hy; exact .p _))⟩
          · cases ho
            have n8 : L 8 = false := Bool.eq_false_iff.2 fun e => by (have := gx 6 (by decide) e; rw [hL] at this; cases this)
            have n9 : L 9 = false := Bool.eq_false_iff.2 fun e => by (have := g9 e; rw [n8] at this; cases this)
            refine opA_valH (.ptr (app H0 T).n 0) rfl rfl (by simp (disch:=first|exact dsc|fail) only [go_sem,seval] <;> rfl) rfl ?_
            rw [app_push,hnT]
            exact ⟨T ++ [.cells [.p (.s .nilFunc)]],a2,a5,T.length,a7,rfl,⟨(by (try simp (disch:=first|exact dsc|fail) only [go_sem,seval]); exact f1),(by (try simp (disch:=first|exact dsc|fail) only [go_sem,seval]); exact f4),(by (try simp (disch:=first|exact dsc|fail) only [go_sem,seval]); exact f6),(by (try simp (disch:=first|exact dsc|fail) only [go_sem,seval]); exact f7),(by (try simp (disch:=first|exact dsc|fail) only [go_sem,seval]); exact f8)⟩,(fun q => by (rw [more_ne (by decide)] at q); (try simp (disch:=first|exact dsc|fail) only [go_sem,seval]); exact g0 q),(fun q => by (rw [more_ne (by decide)] at q); (try simp (disch:=first|exact dsc|fail) only [go_sem,seval]); exact g1 q),(fun q => by (rw [more_ne (by decide)] at q); (try simp (disch:=first|exact dsc|fail) only [go_sem,seval]); exact g3 q),(fun q => by (rw [more_ne (by decide)] at q); (try simp (disch:=first|exact dsc|fail) only [go_sem,seval]); exact g4 q),(fun q => by (rw [more_ne (by decide)] at q); (try simp (disch:=first|exact dsc|fail) only [go_sem,seval]); exact ⟨(g2 q).1,get_push (g2 q).2⟩),(fun q => by (rw [more_ne (by decide)] at q); (try simp (disch:=first|exact dsc|fail) only [go_sem,seval]); exact ⟨(g5 q).1,get_push (g5 q).2⟩),(fun _ => ⟨by simp (disch:=first|exact dsc|fail) only [go_sem,seval],by rw [more_ne (show 8 ≠ 6 by decide),n8,if_neg (by decide)]; exact get_last⟩),(fun q => by (rw [more_ne (by decide)] at q); (try simp (disch:=first|exact dsc|fail) only [go_sem,seval]); obtain ⟨u1,u2⟩ := g7 q; refine ⟨u1,?_⟩; rw [n9,if_neg (by decide)] at u2; rw [more_ne (show 9 ≠ 6 by decide),n9,if_neg (by decide)]; exact get_push u2),(fun _ q => by (rw [more_ne (by decide)] at q); have := lt_get (g7 q).2; omega),(fun j hj q => by (rw [more_ne (by decide)] at q); exact more_t (gx j hj q)),(fun q => by (rw [more_ne (by decide)] at q); exact more_t (g9 q)),(bel_push gb (fun y hy => by (simp [AB.vals] at hy); subst hy; exact .p _))⟩
          · cases ho
            have n8 : L 8 = false := Bool.eq_false_iff.2 fun e => by (have := gx 7 (by decide) e; rw [hL] at this; cases this)
            have n9 : L 9 = false := Bool.eq_false_iff.2 fun e => by (have := g9 e; rw [n8] at this; cases this)
            refine opA_valH (.ptr (app H0 T).n 0) rfl rfl (by simp (disch:=first|exact dsc|fail) only [go_sem,seval] <;> rfl) rfl ?_
            rw [app_push,hnT]
            exact ⟨T ++ [.cells [.p (.s .nilFunc)]],a2,a5,a6,T.length,rfl,⟨(by (try simp (disch:=first|exact dsc|fail) only [go_sem,seval]); exact f1),(by (try simp (disch:=first|exact dsc|fail) only [go_sem,seval]); exact f4),(by (try simp (disch:=first|exact dsc|fail) only [go_sem,seval]); exact f6),(by (try simp (disch:=first|exact dsc|fail) only [go_sem,seval]); exact f7),(by (try simp (disch:=first|exact dsc|fail) only [go_sem,seval]); exact f8)⟩,(fun q => by (rw [more_ne (by decide)] at q); (try simp (disch:=first|exact dsc|fail) only [go_sem,seval]); exact g0 q),(fun q => by (rw [more_ne (by decide)] at q); (try simp (disch:=first|exact dsc|fail) only [go_sem,seval]); exact g1 q),(fun q => by (rw [more_ne (by decide)] at q); (try simp (disch:=first|exact dsc|fail) only [go_sem,seval]); exact g3 q),(fun q => by (rw [more_ne (by decide)] at q); (try simp (disch:=first|exact dsc|fail) only [go_sem,seval]); exact g4 q),(fun q => by (rw [more_ne (by decide)] at q); (try simp (disch:=first|exact dsc|fail) only [go_sem,seval]); exact ⟨(g2 q).1,get_push (g2 q).2⟩),(fun q => by (rw [more_ne (by decide)] at q); (try simp (disch:=first|exact dsc|fail) only [go_sem,seval]); exact ⟨(g5 q).1,get_push (g5 q).2⟩),(fun q => by (rw [more_ne (by decide)] at q); (try simp (disch:=first|exact dsc|fail) only [go_sem,seval]); obtain ⟨u1,u2⟩ := g6 q; refine ⟨u1,?_⟩; rw [n8,if_neg (by decide)] at u2; rw [more_ne (show 8 ≠ 7 by decide),n8,if_neg (by decide)]; exact get_push u2),(fun _ => ⟨by simp (disch:=first|exact dsc|fail) only [go_sem,seval],by rw [more_ne (show 9 ≠ 7 by decide),n9,if_neg (by decide)]; exact get_last⟩),(fun q _ => by (rw [more_ne (by decide)] at q); have := lt_get (g6 q).2; omega),(fun j hj q => by (rw [more_ne (by decide)] at q); exact more_t (gx j hj q)),(fun q => by (rw [more_ne (by decide)] at q); exact more_t (g9 q)),(bel_push gb (fun y hy => by (simp [AB.vals] at hy); subst hy; exact .p _))⟩
          · cases ho
            have h0 : L 0 = true := hall ⟨0,.phase⟩ (by simp) rfl
            have h1 : L 1 = true := hall ⟨1,.phase⟩ (by simp) rfl
            have h2 : L 2 = true := hall ⟨2,.data⟩ (by simp) rfl
            have h5 : L 5 = true := hall ⟨5,.chain⟩ (by simp) rfl
            have h6 : L 6 = true := hall ⟨6,.data⟩ (by simp) rfl
            have h7 : L 7 = true := hall ⟨7,.phase⟩ (by simp) rfl
            have n9 : L 9 = false := Bool.eq_false_iff.2 fun e => by (have := g9 e; rw [hL] at this; cases this)
            obtain ⟨s2,t2⟩ := g2 h2
            obtain ⟨s5,t5⟩ := g5 h5
            obtain ⟨s6,t6⟩ := g6 h6
            obtain ⟨s7,t7⟩ := g7 h7
            have hdd := gd h6 h7
            rw [hL,if_neg (by decide)] at t6
            rw [n9,if_neg (by decide)] at t7
            have hat : (app H0 T).f (H.n + 3 + a6) = some (.cells [.p (.s .nilFunc)]) := by rw [← hn0,app_at]; exact t6
            have hst : (app H0 T).set (H.n + 3 + a6) (.cells [.clo 70 [] [.ptr (H.n + 3 + a2) 0]]) = app H0 (T.set a6 (.cells [.clo 70 [] [.ptr (H.n + 3 + a2) 0]])) := by rw [← hn0,app_set_hi (lt_get t6)]
            refine opA_unit rfl rfl (by simp (disch:=first|exact dsc|fail) only [go_sem,seval,s2,s6,hat] <;> rfl) rfl ?_
            rw [hst]
            have h62 : a6 ≠ a2 := fun e => by (rw [e,t2] at t6); cases t6
            have h65 : a6 ≠ a5 := fun e => by (rw [e,t5] at t6); cases t6
            exact ⟨T.set a6 (.cells [.clo 70 [] [.ptr (H.n + 3 + a2) 0]]),a2,a5,a6,a7,rfl,⟨(by (try simp (disch:=first|exact dsc|fail) only [go_sem,seval]); exact f1),(by (try simp (disch:=first|exact dsc|fail) only [go_sem,seval]); exact f4),(by (try simp (disch:=first|exact dsc|fail) only [go_sem,seval]); exact f6),(by (try simp (disch:=first|exact dsc|fail) only [go_sem,seval]); exact f7),(by (try simp (disch:=first|exact dsc|fail) only [go_sem,seval]); exact f8)⟩,(fun q => by (rw [more_ne (by decide)] at q); (try simp (disch:=first|exact dsc|fail) only [go_sem,seval]); exact g0 q),(fun q => by (rw [more_ne (by decide)] at q); (try simp (disch:=first|exact dsc|fail) only [go_sem,seval]); exact g1 q),(fun q => by (rw [more_ne (by decide)] at q); (try simp (disch:=first|exact dsc|fail) only [go_sem,seval]); exact g3 q),(fun q => by (rw [more_ne (by decide)] at q); (try simp (disch:=first|exact dsc|fail) only [go_sem,seval]); exact g4 q),(fun _ => ⟨s2,by rw [List.getElem?_set_ne h62]; exact t2⟩),(fun _ => ⟨s5,by rw [List.getElem?_set_ne h65]; exact t5⟩),(fun _ => ⟨s6,by rw [more_eq,if_pos rfl,List.getElem?_set_self (lt_get t6)]⟩),(fun _ => ⟨s7,by rw [more_ne (show 9 ≠ 8 by decide),n9,if_neg (by decide),List.getElem?_set_ne hdd]; exact t7⟩),(fun _ _ => hdd),(fun j hj _ => by rcases hj with rfl | rfl | rfl | rfl <;> exact more_t (by assumption)),(fun q => by (rw [more_ne (by decide)] at q); exact more_t (g9 q)),(bel_setT gb (fun y hy => by (simp [AB.vals] at hy); subst hy; (have := lt_get t2); exact .clo _ _ _ (fun _ _ h => by simp at h) (fun i z hz => by (rcases i with _ | i <;> simp at hz); subst hz; exact .ptr _ _ (by omega))))⟩
          · cases ho
            have h0 : L 0 = true := hall ⟨0,.phase⟩ (by simp) rfl
            have h1 : L 1 = true := hall ⟨1,.phase⟩ (by simp) rfl
            have h2 : L 2 = true := hall ⟨2,.phase⟩ (by simp) rfl
            have h3 : L 3 = true := hall ⟨3,.phase⟩ (by simp) rfl
            have h4 : L 4 = true := hall ⟨4,.phase⟩ (by simp) rfl
            have h5 : L 5 = true := hall ⟨5,.data⟩ (by simp) rfl
            have h6 : L 6 = true := hall ⟨6,.phase⟩ (by simp) rfl
            have h7 : L 7 = true := hall ⟨7,.data⟩ (by simp) rfl
            have h8 : L 8 = true := hall ⟨8,.chain⟩ (by simp) rfl
            obtain ⟨s2,t2⟩ := g2 h2
            obtain ⟨s5,t5⟩ := g5 h5
            obtain ⟨s6,t6⟩ := g6 h6
            obtain ⟨s7,t7⟩ := g7 h7
            have hdd := gd h6 h7
            rw [h8,if_pos rfl] at t6
            rw [hL,if_neg (by decide)] at t7
            have hat : (app H0 T).f (H.n + 3 + a7) = some (.cells [.p (.s .nilFunc)]) := by rw [← hn0,app_at]; exact t7
            have hst : (app H0 T).set (H.n + 3 + a7) (.cells [.clo 71 [] [.ptr (H.n + 3 + a5) 0]]) = app H0 (T.set a7 (.cells [.clo 71 [] [.ptr (H.n + 3 + a5) 0]])) := by rw [← hn0,app_set_hi (lt_get t7)]
            refine opA_unit rfl rfl (by simp (disch:=first|exact dsc|fail) only [go_sem,seval,s5,s7,hat] <;> rfl) rfl ?_
            rw [hst]
            have h62 : a7 ≠ a2 := fun e => by (rw [e,t2] at t7); cases t7
            have h65 : a7 ≠ a5 := fun e => by (rw [e,t5] at t7); cases t7
            exact ⟨T.set a7 (.cells [.clo 71 [] [.ptr (H.n + 3 + a5) 0]]),a2,a5,a6,a7,rfl,⟨(by (try simp (disch:=first|exact dsc|fail) only [go_sem,seval]); exact f1),(by (try simp (disch:=first|exact dsc|fail) only [go_sem,seval]); exact f4),(by (try simp (disch:=first|exact dsc|fail) only [go_sem,seval]); exact f6),(by (try simp (disch:=first|exact dsc|fail) only [go_sem,seval]); exact f7),(by (try simp (disch:=first|exact dsc|fail) only [go_sem,seval]); exact f8)⟩,(fun q => by (rw [more_ne (by decide)] at q); (try simp (disch:=first|exact dsc|fail) only [go_sem,seval]); exact g0 q),(fun q => by (rw [more_ne (by decide)] at q); (try simp (disch:=first|exact dsc|fail) only [go_sem,seval]); exact g1 q),(fun q => by (rw [more_ne (by decide)] at q); (try simp (disch:=first|exact dsc|fail) only [go_sem,seval]); exact g3 q),(fun q => by (rw [more_ne (by decide)] at q); (try simp (disch:=first|exact dsc|fail) only [go_sem,seval]); exact g4 q),(fun _ => ⟨s2,by rw [List.getElem?_set_ne h62]; exact t2⟩),(fun _ => ⟨s5,by rw [List.getElem?_set_ne h65]; exact t5⟩),(fun _ => ⟨s6,by rw [more_ne (show 8 ≠ 9 by decide),h8,if_pos rfl,List.getElem?_set_ne hdd.symm]; exact t6⟩),(fun _ => ⟨s7,by rw [more_eq,if_pos rfl,List.getElem?_set_self (lt_get t7)]⟩),(fun _ _ => hdd),(fun j hj q => by (rw [more_ne (by decide)] at q); exact more_t (gx j hj q)),(fun _ => more_t h8),(bel_setT gb (fun y hy => by (simp [AB.vals] at hy); subst hy; (have := lt_get t5); exact .clo _ _ _ (fun _ _ h => by simp at h) (fun i z hz => by (rcases i with _ | i <;> simp at hz); subst hz; exact .ptr _ _ (by omega))))⟩
          · simp at ho
        · intro L env' H' hall hI
          obtain ⟨T,a2,a5,a6,a7,rfl,⟨f1,f4,f6,f7,f8⟩,_,_,_,_,g2,g5,g6,g7,gd,_,_,gb⟩ := hI
          obtain ⟨s2,t2⟩ := g2 (hall 2 (by decide))
          obtain ⟨s5,t5⟩ := g5 (hall 5 (by decide))
          obtain ⟨s6,t6⟩ := g6 (hall 6 (by decide))
          obtain ⟨s7,t7⟩ := g7 (hall 7 (by decide))
          have hdd := gd (hall 6 (by decide)) (hall 7 (by decide))
          rw [hall 8 (by decide),if_pos rfl] at t6
          rw [hall 9 (by decide),if_pos rfl] at t7
          clear hall g2 g5 g6 g7 gd
        -- END6
          have hfam := ver_fam hn0 hb0 t2 t5 t6 t7 gb
          have hVn := verF_n (T := T) (a2 := a2) (a5 := a5) hn0
          have hV0 : ∀ l d,(verF H0 T a2 a5 l d).f H.n = some (.cells (cl b8 root)) := fun l d => app_f' q0
          have hV1 : ∀ l d,(verF H0 T a2 a5 l d).f (H.n + 1) = some (.cells [.p (.sl false 1 (pl i64 idx)),.p (.sl false 1 (pl bs B))]) := fun l d => app_f' q1
          have hVt : ∀ l d,(verF H0 T a2 a5 l d).trunc H.n = H := fun l d => by unfold verF; rw [app_trunc (by omega),ht0]
          have hVb : ∀ l d,Bel H.n (verF H0 T a2 a5 l d) := fun l d => bel_appl hbl0 (by omega)
          have hKF : app H0 T = verF H0 T a2 a5 B N := by unfold verF lvC nvC; rw [set_same t2,set_same t5]
          rw [hKF]
          have lt7 := lt_get t7
          have lt6 := lt_get t6
          have lt2 := lt_get t2
          have lt5 := lt_get t5
          generalize verF H0 T a2 a5 = F at hfam hVn hV0 hV1 hVt hVb ⊢
          clear t2 t5 t6 t7 gb hKF hdd hbl0 hb0 ht0 q0 q1 q2 hn0 hH0
          generalize hM : H.n + 3 + T.length = M at hfam hVn
          generalize hQ : H.n + 3 + a7 = q at hfam s7
          generalize hP : H.n + 3 + a6 = p at hfam s6
          generalize hBL : H.n + 3 + a2 = bl at hfam s2
          generalize hBN : H.n + 3 + a5 = bn at hfam s5
          have hqM : q < M := by omega
          have hpM : p < M := by omega
          have hM3 : H.n + 3 ≤ M := by omega
          clear s2 s5 hM hQ hP hBL hBN lt7 lt6 lt2 lt5
          have hinc : Inc n idx := by
            by_cases e : Inc n idx
            · exact e
            · rw [chkE,if_neg e] at h0; cases h0
          have hsz : sizeE n = 0 := by rw [chkE,if_pos hinc] at h0; exact h0
          obtain ⟨k,rfl⟩ : ∃ k : Nat,n = k := ⟨n.toNat,by omega⟩
          have hk : k ≤ 65536 := by
            rw [sizeE_nat] at hsz
            unfold rootE at hsz
            split at hsz
            · cases hsz
            · split at hsz
              · cases hsz
              · omega
          have hreb := rebuild_spec (G := G) hG' _ _ _ _ _ _ k _ _ hfam 0 k idx B N true (by omega) (by omega) hk hinc.asc hil hN hNl hB hBl
          have hok := rebF_ok k idx 0 k B N true hN hB
          have hv : verE root k idx B N = if (verR k idx B N).2.2.1 = [] ∧ (verR k idx B N).2.2.2 = true ∧ (verR k idx B N).1 = root then 0 else 80 := by
            rw [verE,hc,if_pos h0]; rfl
          rw [hv] at h
          unfold verR at h
          generalize rebF k idx 0 k B N true = r at hreb hok h
          obtain ⟨x,l',d',c'⟩ := r
          dsimp only at hreb hok h
          obtain ⟨hx,⟨ka,hla⟩,⟨kb,hda⟩⟩ := hok
          have hd' : ∀ y ∈ d',y.length = 32 := fun y hy => hN y (by rw [hda] at hy; exact List.mem_of_mem_drop hy)
          have hdl' : d'.length ≤ 100000 := by rw [hda,List.length_drop]; omega
          unfold subV at hreb
          have hn1' := hVn B N
          have hn2' := hVn l' d'
          have hn3' := hVn l' (d'.drop 1)
          have f4' := f4
          (repeat refine .z rfl ?_); refine .text ?_; simp (disch:=first|exact dsc|fail) only [go_sem,seval,f1,f6,s6,s7,hVn]
          (repeat refine .z rfl ?_); refine .text ?_; simp (disch:=first|exact dsc|fail) only [go_sem,seval,f1,s6,s7,hVn]
          (repeat refine .z rfl ?_); refine .text ?_; simp (disch:=first|exact dsc|fail) only [go_sem,seval,f1,s6,s7,hVn]
          (repeat refine .z rfl ?_); refine .text ?_; simp (disch:=first|exact dsc|fail) only [go_sem,seval,f1,f6,hVn,hV1]
          refine CallK.of (fun R h => hreb R h) ?_
          simp (disch:=first|exact dsc|fail) only [go_sem,seval,hVn]
          have fq := hfam.fq l' d' c'
          have fn := hfam.fn l' d' c'
          have fcc := hfam.fcc l' (d'.drop 1) c'
          have sn := hfam.sn l' d' c' (d'.drop 1)
          have hbq : q < M + 2 := by omega
          have hln := Hp.lt (hfam.fn l' d' c')
          (try dsimp only at fq fn fcc sn hln)
          rw [n_new',n_new',hn2'] at hln
          obtain ⟨SS,hSS⟩ : ∃ SS : List By → Hp,SS = fun d => ((F l' d).new (.cells [.p (bo c')])).new (.cells [.clo 50 [] [.ptr q 0,.ptr M 0,.ptr p 0,.ptr (M + 1) 0]]) := ⟨_,rfl⟩
          have eS : ∀ d,((F l' d).new (.cells [.p (bo c')])).new (.cells [.clo 50 [] [.ptr q 0,.ptr M 0,.ptr p 0,.ptr (M + 1) 0]]) = SS d := fun d => by rw [hSS]
          rw [eS] at fq fn fcc sn
          rw [eS] at sn
          rw [eS]
          have hSn : ∀ d,(SS d).n = M + 2 := fun d => by rw [hSS]; simp (disch:=first|exact dsc|fail) only [go_sem,seval,hVn]
          have hS0 : ∀ d,(SS d).f H.n = some (.cells (cl b8 root)) := fun d => by rw [hSS]; have := hVn l' d; simp (disch:=first|exact dsc|fail) only [go_sem,seval,hVn,hV0]
          have hSt : ∀ d,(SS d).trunc H.n = H := fun d => by rw [hSS]; have := hVn l' d; simp (disch:=first|exact dsc|fail) only [go_sem,seval,hVn,hVt]
          have hSb : ∀ d,Bel H.n (SS d) := fun d => by rw [hSS]; exact bel_new (bel_new (hVb l' d) (by rw [hVn]; omega)) (by rw [n_new',hVn]; omega)
          have hs1 := hSn d'
          have hs2 := hSn (d'.drop 1)
          have hh := hdD_len hd'
          (repeat refine .z rfl ?_); refine .text ?_; simp (disch:=first|exact dsc|fail) only [go_sem,seval,f1,s7,hSn,fq]
          refine CallK.of (fun R h => nextD_spec d' hdl' hd' bn _ (by simp (disch:=first|exact dsc|fail) only [go_sem,seval,hSn,fn]) R h) ?_; simp (disch:=first|exact dsc|fail) only [go_sem,seval,hSn,sn,hh]
          have hbelS := hSb (d'.drop 1)
          have hem : (!d'.isEmpty) = !decide (d' = []) := by cases d' <;> rfl
          rw [hem]
          by_cases e1 : d' = []
          · rw [decide_eq_true e1]
            cases c'
            · rw [if_neg (by rintro ⟨_,h,_⟩; cases h)] at h
              (repeat refine .z rfl ?_); refine .text ?_; simp (disch:=first|exact dsc|fail) only [go_sem,seval,f1,fcc,hSn]
              (repeat refine .z rfl ?_); refine .ifT (by simp (disch:=first|exact dsc|fail) only [go_sem,seval]) ?_
              (repeat refine .z rfl ?_); refine .text ?_; simp (disch:=first|exact dsc|fail) only [go_sem,seval]
              have hbel := hbelS
              (repeat refine .z rfl ?_); refine .rt Tryd.func22 (by rw [Tryd.results22]) (hR := ?_); simp (disch:=first|exact dsc|fail) only [go_sem,seval]
              rw [hSt]
              exact h
            · by_cases e2 : x = root
              · have d4 : (!decide (x = root)) = false := by rw [decide_eq_true e2]; rfl
                rw [if_pos ⟨e1,rfl,e2⟩] at h
                (repeat refine .z rfl ?_); refine .text ?_; simp (disch:=first|exact dsc|fail) only [go_sem,seval,f4,fcc,hSn,hS0,hx,hroot,d4,cells_db,aggOf_db hx,aggOf_db hroot]
                (repeat refine .z rfl ?_); refine .ifF (by simp (disch:=first|exact dsc|fail) only [go_sem,seval,d4]) ?_
                (repeat refine .z rfl ?_); refine .text ?_; simp (disch:=first|exact dsc|fail) only [go_sem,seval]
                have hbel := hbelS
                (repeat refine .z rfl ?_); refine .rt Tryd.func22 (by rw [Tryd.results22]) (hR := ?_); simp (disch:=first|exact dsc|fail) only [go_sem,seval]
                rw [hSt]
                exact h
              · have d4 : (!decide (x = root)) = true := by rw [decide_eq_false e2]; rfl
                rw [if_neg (by rintro ⟨_,_,h⟩; exact e2 h)] at h
                (repeat refine .z rfl ?_); refine .text ?_; simp (disch:=first|exact dsc|fail) only [go_sem,seval,f4,fcc,hSn,hS0,hx,hroot,d4,cells_db,aggOf_db hx,aggOf_db hroot]
                (repeat refine .z rfl ?_); refine .ifT (by simp (disch:=first|exact dsc|fail) only [go_sem,seval,d4]) ?_
                (repeat refine .z rfl ?_); refine .text ?_; simp (disch:=first|exact dsc|fail) only [go_sem,seval]
                have hbel := hbelS
                (repeat refine .z rfl ?_); refine .rt Tryd.func22 (by rw [Tryd.results22]) (hR := ?_); simp (disch:=first|exact dsc|fail) only [go_sem,seval]
                rw [hSt]
                exact h
          · rw [decide_eq_false e1]
            rw [if_neg (by rintro ⟨h,_⟩; exact e1 h)] at h
            (repeat refine .z rfl ?_); refine .text ?_; simp (disch:=first|exact dsc|fail) only [go_sem,seval,f1,fcc,hSn]
            (repeat refine .z rfl ?_); refine .ifT (by simp (disch:=first|exact dsc|fail) only [go_sem,seval]) ?_
            (repeat refine .z rfl ?_); refine .text ?_; simp (disch:=first|exact dsc|fail) only [go_sem,seval]
            have hbel := hbelS
            (repeat refine .z rfl ?_); refine .rt Tryd.func22 (by rw [Tryd.results22]) (hR := ?_); simp (disch:=first|exact dsc|fail) only [go_sem,seval]
            rw [hSt]
            exact h
      · have d3 : (((chkE n idx : Nat) : Int) != 0) = true := by simp; omega
        have hv : verE root n idx B N = chkE n idx := by rw [verE,hc,if_neg h0]
        rw [hv] at h
        (repeat refine .z rfl ?_); refine .text ?_; simp (disch:=first|exact dsc|fail) only [go_sem,seval,d3]
        (repeat refine .z rfl ?_); refine .ifT (by simp (disch:=first|exact dsc|fail) only [go_sem,seval,d3]) ?_
        (repeat refine .z rfl ?_); refine .text ?_; simp (disch:=first|exact dsc|fail) only [go_sem,seval]
        (repeat refine .z rfl ?_); refine .rt Tryd.func22 (by rw [Tryd.results22]) (hR := ?_); simp (disch:=first|exact dsc|fail) only [go_sem,seval]
        exact h
    · have d2 : ((B.length : Int) != (idx.length : Int)) = true := by simp; omega
      have hv : verE root n idx B N = 1 := by
        have : verC n idx B = 1 := if_pos (.inr hne)
        rw [verE,this]; rfl
      rw [hv] at h
      (repeat refine .z rfl ?_); refine .text ?_; simp (disch:=first|exact dsc|fail) only [go_sem,seval,d1,d2]
      (repeat refine .z rfl ?_); refine .ifT (by simp (disch:=first|exact dsc|fail) only [go_sem,seval,d1,d2]) ?_
      (repeat refine .z rfl ?_); refine .text ?_; simp (disch:=first|exact dsc|fail) only [go_sem,seval]
      (repeat refine .z rfl ?_); refine .text ?_; simp (disch:=first|exact dsc|fail) only [go_sem,seval]
      (repeat refine .z rfl ?_); refine .ifT (by simp (disch:=first|exact dsc|fail) only [go_sem,seval]) ?_
      (repeat refine .z rfl ?_); refine .text ?_; simp (disch:=first|exact dsc|fail) only [go_sem,seval]
      (repeat refine .z rfl ?_); refine .rt Tryd.func22 (by rw [Tryd.results22]) (hR := ?_); simp (disch:=first|exact dsc|fail) only [go_sem,seval]
      exact h
end walks
end Go.Proofs.YthonhnpiglafkaaDoor

/-
  Hash trees: what the fixed examples of the laws come to.
-/
namespace Go.Proofs.YthonhnpiglafkaaDoor
open Go Go.AL

abbrev tx : List By := [[97#8],[98#8],[99#8]]
abbrev dA : By := leaf [97#8]
abbrev dB : By := leaf [98#8]
abbrev dC : By := leaf [99#8]
theorem tx_eq : textL 3 = tx := by rfl
theorem tx_short : Short tx := fun i hi => by
  rcases i with _ | _ | _ | i
  · exact (by decide : [97#8].length ≤ 800000)
  · exact (by decide : [98#8].length ≤ 800000)
  · exact (by decide : [99#8].length ≤ 800000)
  · simp at hi; omega
theorem foldD1 (x : By) : foldD [x] = x := foldD_one rfl
theorem foldD2 (x y : By) : foldD [x,y] = pair x y := by
  rw [foldD_two (by simp)]
  have h : spl [x,y].length = 1 := by rfl
  rw [h]
  show pair (foldD [x]) (foldD [y]) = _
  rw [foldD1,foldD1]
theorem foldD3 (x y z : By) : foldD [x,y,z] = pair (pair x y) z := by
  rw [foldD_two (by simp)]
  have h : spl [x,y,z].length = 2 := show spl 3 = 2 by decide +kernel
  rw [h]
  show pair (foldD [x,y]) (foldD [z]) = _
  rw [foldD2,foldD1]
theorem san_root : rootV tx = pair (pair dA dB) dC := by
  have h : rootE tx.length = 0 := rfl
  rw [rootV,if_pos h]
  exact foldD3 _ _ _
theorem san_one : rootV (tx.take 1) = dA := by
  have h : rootE (tx.take 1).length = 0 := rfl
  rw [rootV,if_pos h]
  exact foldD1 _
theorem san_none : rootV [] = zeroD ∧ rootE 0 = 1 := ⟨by rw [rootV,if_neg (by decide)],rfl⟩
theorem chk1 : chkE 3 [1] = 0 := by decide
theorem chk0 : chkE 3 [] = 0 := by decide
theorem chk11 : chkE 3 [1,1] = 1 := by decide
theorem chk3 : chkE 3 [3] = 1 := by decide
theorem chk2 : chkE 3 [2] = 0 := by decide
theorem san_open : openN tx [1] = [dA,dC] := by
  have h : chkE tx.length [1] = 0 := chk1
  have hc : closI tx.length [1] = [(0,1),(2,3)] := by decide
  rw [openN,if_pos h,hc]
  show [foldD [dA],foldD [dC]] = _
  rw [foldD1,foldD1]
theorem san_whole : openN tx [] = [pair (pair dA dB) dC] := by
  have h : chkE tx.length [] = 0 := chk0
  have hc : closI tx.length [] = [(0,3)] := by decide
  rw [openN,if_pos h,hc]
  show [foldD [dA,dB,dC]] = _
  rw [foldD3]
theorem san_wit : witN tx 2 = [pair dA dB] := by
  have h : chkE tx.length [2] = 0 := chk2
  have hc : stepC tx.length (2 : Int).toNat = [(0,2)] := by decide
  rw [witN,if_pos h,pathD,hc]
  show [foldD [dA,dB]] = _
  rw [foldD2]
theorem san_push0 : pushD [] 0 [97#8] = [dA] := rfl
theorem san_push1 : pushD [dA] 1 [98#8] = [pair dA dB] := rfl
theorem san_push2 : pushD [pair dA dB] 2 [99#8] = [pair dA dB,dC] := rfl
theorem san_bag : bagD [pair dA dB,dC] = pair (pair dA dB) dC := rfl
theorem reb1 (l : By) (x z : By) : verR 3 [1] [l] [x,z] = (pair (pair x (leaf l)) z,[],[],true) := by
  have e1 : rebF 1 ([] : List Int) 0 1 [l] [x,z] true = (x,[l],[z],true) := rfl
  have e2 : rebF 1 ([1] : List Int) 1 2 [l] [z] true = (leaf l,[],[z],true) := rfl
  have f1 : ([1] : List Int).filter (fun i => decide (i < ((2 : Nat) : Int))) = [1] := by decide
  have f2 : ([1] : List Int).filter (fun i => decide (((2 : Nat) : Int) ≤ i)) = [] := by decide
  have g1 : ([1] : List Int).filter (fun i => decide (i < ((1 : Nat) : Int))) = [] := by decide
  have g2 : ([1] : List Int).filter (fun i => decide (((1 : Nat) : Int) ≤ i)) = [1] := by decide
  have e3 : rebF 2 ([1] : List Int) 0 2 [l] [x,z] true = (pair x (leaf l),[],[z],true) :=
    rebF_split (by simp) (by omega) (k := 1) (by rfl) (by rw [g1]; exact e1) (by rw [g2]; exact e2)
  have e4 : rebF 2 ([] : List Int) 2 3 [] [z] true = (z,[],[],true) := rfl
  exact rebF_split (by simp) (by omega) (k := 2) (by rfl) (by rw [f1]; exact e3) (by rw [f2]; exact e4)
theorem san_ver (r : By) (l x z : By) : verE r 3 [1] [l] [x,z] = if pair (pair x (leaf l)) z = r then 0 else 80 := by
  have h : verC 3 [1] [l] = 0 := by
    have : ¬((3 : Int) < 1 ∨ [l].length ≠ ([1] : List Int).length) := by simp
    rw [verC,if_neg this]; exact chk1
  have ht : (3 : Int).toNat = 3 := rfl
  rw [verE,if_pos h,ht,reb1]
  dsimp only
  by_cases e : pair (pair x (leaf l)) z = r
  · rw [if_pos ⟨rfl,rfl,e⟩,if_pos e]
  · rw [if_neg (by rintro ⟨_,_,h⟩; exact e h),if_neg e]
theorem san_ver3 (r : By) (N : List By) : verE r 3 [1] [] N = 1 := by
  have h : verC 3 [1] [] = 1 := if_pos (.inr (by decide))
  rw [verE,h]; rfl
theorem san_ver0 (r : By) (N : List By) : verE r 0 [] [] N = 1 := by
  have h : verC 0 [] [] = 1 := if_pos (.inl (by decide))
  rw [verE,h]; rfl
theorem san_verB (r : By) (N : List By) : verE r 65537 [] [] N = 2 := by
  have h : verC 65537 [] [] = 2 := by decide
  rw [verE,h]; rfl
set_option maxRecDepth 100000 in
theorem san_ne : pair (pair dA dA) dC ≠ pair (pair dA dB) dC := by decide +kernel
theorem oc3 : (oc (BitVec.ofNat 64 3)).toNat = 2 := by decide
theorem climb1 (q : By) (b : By) : climbI [q] [false].reverse b [q].length = pair q (leaf b) := by
  have hn : nth ([false] : List Bool).reverse 0 = false := rfl
  have hq : nth [q] 0 = q := rfl
  have h0 : climbI [q] [false].reverse b 0 = leaf b := rfl
  show climbI [q] [false].reverse b (0 + 1) = _
  rw [climbI,hn,if_neg (by decide),hq,h0]
theorem san_con1 : contN [pair dA dB,dC] 3 2 [99#8] [pair dA dB] = true := by
  have hs : sideL 3 2 = [false] := by decide
  have ho : (oc (BitVec.ofNat 64 3)).toNat = [pair dA dB,dC].length := oc3
  rw [contN,if_pos ho,hs,if_pos (show [false].length = [pair dA dB].length from rfl),decide_eq_true_eq,climb1,san_bag]
theorem san_con2 : contN [pair dA dB,dC] 3 1 [99#8] [pair dA dB] = false := by
  have hs : sideL 3 1 = [true,false] := by decide
  have ho : (oc (BitVec.ofNat 64 3)).toNat = [pair dA dB,dC].length := oc3
  rw [contN,if_pos ho,hs,if_neg (by simp)]
theorem san_con3 : contN [pair dA dB] 3 2 [99#8] [pair dA dB] = false := by
  rw [contN,if_neg (by rw [oc3]; simp)]
end Go.Proofs.YthonhnpiglafkaaDoor

/-
  Hash trees: the fixed examples of the laws.
-/
namespace Go.Proofs.YthonhnpiglafkaaDoor
open Go Go.AL

section walks
variable {G : Globs}
set_option maxRecDepth 20000 in
set_option maxHeartbeats 32000000 in
theorem sanity_spec (hG : GS G) (hT : GT G) (H : Hp) (R : AV → Hp → Prop) (h : R (.p (bo true)) H) : ACall Tryd.prog G 9 [] H R := by
  have hG' := hG
  obtain ⟨hG0,hG1⟩ := hG
  refine ACall.of_run (raw := []) Tryd.func9 rfl Tryd.ntmps9 (by simp) fun hbel => ?_
  (repeat refine .z rfl ?_); refine .text ?_; simp (disch:=first|exact dsc|fail) only [go_sem,seval]
  (repeat refine .z rfl ?_); refine .text ?_; simp (disch:=first|exact dsc|fail) only [go_sem,seval]
  refine CallK.of (fun R h => texts_spec 3 (by omega) _ R h) ?_; simp (disch:=first|exact dsc|fail) only [go_sem,seval]
  rw [tx_eq]
  have lA : dA.length = 32 := leaf_len _
  have lB : dB.length = 32 := leaf_len _
  have lC : dC.length = 32 := leaf_len _
  have s1 := san_root
  have s2 := san_one
  have s3 := san_open
  have s4 := san_whole
  have s5 := san_wit
  have p0 := san_push0
  have p1 := san_push1
  have p2 := san_push2
  have s6 := san_bag
  have s7 := san_ver (pair (pair dA dB) dC) [98#8] dA dC
  rw [if_pos rfl] at s7
  have s8 := san_ver (pair (pair dA dB) dC) [97#8] dA dC
  rw [if_neg san_ne] at s8
  have c1 := san_con1
  have c2 := san_con2
  have c3 := san_con3
  have hsh := tx_short
  have hl3 : tx.length = 3 := rfl
  have n0 : nth tx 0 = [97#8] := rfl
  have n1 : nth tx 1 = [98#8] := rfl
  have n2 : nth tx 2 = [99#8] := rfl
  have tk : (tx.take 1).length = 1 := rfl
  have hsh1 : Short (tx.take 1) := hsh.take 1
  have lr : (pair (pair dA dB) dC).length = 32 := pair_len _ _
  have lab : (pair dA dB).length = 32 := pair_len _ _
  have hA : leaf [97#8] = dA := rfl
  have hB : leaf [98#8] = dB := rfl
  have hC : leaf [99#8] = dC := rfl
  generalize hr : pair (pair dA dB) dC = r at *
  generalize hab : pair dA dB = ab at *
  generalize dA = a at *
  generalize dB = b at *
  generalize dC = c at *
  generalize tx = ls at *
  have hcb : ∀ x : By,bs x = .sl false 1 (pl b8 x) := fun _ => rfl
  have r3 : rootE ls.length = 0 := by rw [hl3]; rfl
  have r1 : rootE (ls.take 1).length = 0 := by rw [tk]; rfl
  (repeat refine .z rfl ?_); refine .openF 12 15 18 [12,13,14,15,16,17] follows (by kernel_rfl) (by kernel_rfl) ?_; simp (disch:=first|exact dsc|fail) only [go_sem,seval,hl3,n0,n1,n2,hcb]
  refine CallQE.of (fun H R h => LeafR_spec [97#8] (by simp) H R h) (by first | exact .p _ | simp (disch:=first|exact dsc|fail) only [go_sem,seval,hl3,n0,n1,n2,hcb,hA]) ?_; simp (disch:=first|exact dsc|fail) only [go_sem,seval,hl3,n0,n1,n2,hcb,hA]
  refine CallQE.of (fun H R h => LeafR_spec [98#8] (by simp) H R h) (by first | exact .p _ | simp (disch:=first|exact dsc|fail) only [go_sem,seval,hl3,n0,n1,n2,hcb,hB]) ?_; simp (disch:=first|exact dsc|fail) only [go_sem,seval,hl3,n0,n1,n2,hcb,hB]
  refine CallQE.of (fun H R h => LeafR_spec [99#8] (by simp) H R h) (by first | exact .p _ | simp (disch:=first|exact dsc|fail) only [go_sem,seval,hl3,n0,n1,n2,hcb,hC,lA,lB,lC]) ?_; simp (disch:=first|exact dsc|fail) only [go_sem,seval,hl3,n0,n1,n2,hcb,hC,lA,lB,lC]
  (repeat refine .z rfl ?_); refine .text ?_; simp (disch:=first|exact dsc|fail) only [go_sem,seval]
  refine CallK.of (fun R h => PairR_spec a b lA lB _ R h) ?_; simp (disch:=first|exact dsc|fail) only [go_sem,seval,hab,lab]
  (repeat refine .z rfl ?_); refine .text ?_; simp (disch:=first|exact dsc|fail) only [go_sem,seval]
  refine CallK.of (fun R h => Root_spec hG' ls (by omega) hsh _ R h) ?_; simp (disch:=first|exact dsc|fail) only [go_sem,seval,s1,r3,lr]
  (repeat refine .z rfl ?_); refine .text ?_; simp (disch:=first|exact dsc|fail) only [go_sem,seval,hl3]
  refine CallK.of (fun R h => Root_spec hG' (ls.take 1) (by omega) hsh1 _ R h) ?_; simp (disch:=first|exact dsc|fail) only [go_sem,seval,s2,r1,lA]
  have hshN : Short ([] : List By) := fun i hi => by simp at hi
  have z1 : rootV ([] : List By) = zeroD := san_none.1
  have z2 : rootE ([] : List By).length = 1 := san_none.2
  have z3 : zeroD.length = 32 := rfl
  have k1 : chkE (ls.length : Int) [1] = 0 := by rw [hl3]; exact chk1
  have k0 : chkE (ls.length : Int) [] = 0 := by rw [hl3]; exact chk0
  have k11 : chkE (ls.length : Int) [1,1] = 1 := by rw [hl3]; exact chk11
  have k3 : chkE (ls.length : Int) [3] = 1 := by rw [hl3]; exact chk3
  have k2 : chkE (ls.length : Int) [2] = 0 := by rw [hl3]; exact chk2
  have o11 : openN ls [1,1] = [] := by rw [openN,if_neg (by rw [k11]; decide)]
  have o3 : openN ls [3] = [] := by rw [openN,if_neg (by rw [k3]; decide)]
  have w3 : witN ls 3 = [] := by rw [witN,if_neg (by rw [k3]; decide)]
  (repeat refine .z rfl ?_); refine .text ?_; simp (disch:=first|exact dsc|fail) only [go_sem,seval]
  refine CallK.of (fun R h => nil_arg (xs := []) (ys := []) (fl := false) (sz := 1) (Root_spec hG' [] (by simp) hshN _ R h)) ?_; simp (disch:=first|exact dsc|fail) only [go_sem,seval,z1,z2,z3]
  (repeat refine .z rfl ?_); refine .text ?_; simp (disch:=first|exact dsc|fail) only [go_sem,seval]
  refine CallK.of (fun R h => Open_spec hG' ls [1] (by omega) (by simp) hsh _ R h) ?_; simp (disch:=first|exact dsc|fail) only [go_sem,seval,s3,k1]
  (repeat refine .z rfl ?_); refine .text ?_; simp (disch:=first|exact dsc|fail) only [go_sem,seval]
  refine CallK.of (fun R h => nil_arg (xs := [.p (.sl false 1 (pl bs ls))]) (ys := []) (fl := false) (sz := 1) (Open_spec hG' ls [] (by omega) (by simp) hsh _ R h)) ?_; simp (disch:=first|exact dsc|fail) only [go_sem,seval,s4,k0]
  (repeat refine .z rfl ?_); refine .text ?_; simp (disch:=first|exact dsc|fail) only [go_sem,seval]
  refine CallK.of (fun R h => Open_spec hG' ls [1,1] (by omega) (by simp) hsh _ R h) ?_; simp (disch:=first|exact dsc|fail) only [go_sem,seval,o11,k11]
  (repeat refine .z rfl ?_); refine .text ?_; simp (disch:=first|exact dsc|fail) only [go_sem,seval]
  refine CallK.of (fun R h => Open_spec hG' ls [3] (by omega) (by simp) hsh _ R h) ?_; simp (disch:=first|exact dsc|fail) only [go_sem,seval,o3,k3]
  (repeat refine .z rfl ?_); refine .text ?_; simp (disch:=first|exact dsc|fail) only [go_sem,seval]
  refine CallK.of (fun R h => Witness_spec hG' ls 2 (by omega) hsh _ R h) ?_; simp (disch:=first|exact dsc|fail) only [go_sem,seval,s5,k2]
  (repeat refine .z rfl ?_); refine .text ?_; simp (disch:=first|exact dsc|fail) only [go_sem,seval]
  refine CallK.of (fun R h => Witness_spec hG' ls 3 (by omega) hsh _ R h) ?_; simp (disch:=first|exact dsc|fail) only [go_sem,seval,w3,k3]
  (repeat refine .z rfl ?_); refine .open [] follows (by kernel_rfl) ?_; simp (disch:=first|exact dsc|fail) only [go_sem,seval,hl3,n0,n1,n2,hcb]
  refine CallD.still (fun R h => nil_arg (xs := []) (ys := [.p (i64 0),.p (.sl false 1 (pl b8 [97#8]))]) (fl := false) (sz := 32) (Push_spec hG' hT [] (by simp) (by simp) 0 (by omega) (by decide) [97#8] (by simp) _ R h)) ?_; simp (disch:=first|exact dsc|fail) only [go_sem,seval,p0,hl3,n0,n1,n2,hcb]
  refine CallD.still (fun R h => Push_spec hG' hT [a] (by simp) (by simp; exact lA) 1 (by omega) (show ones 64 1 ≤ 1 by decide) [98#8] (by simp) _ R h) ?_; simp (disch:=first|exact dsc|fail) only [go_sem,seval,p1,hl3,n0,n1,n2,hcb]
  refine CallD.still (fun R h => Push_spec hG' hT [ab] (by simp) (by simp; exact lab) 2 (by omega) (show ones 64 2 ≤ 1 by decide) [99#8] (by simp) _ R h) ?_; simp (disch:=first|exact dsc|fail) only [go_sem,seval,p2,hl3,n0,n1,n2,hcb]
  (repeat refine .z rfl ?_); refine .text ?_; simp (disch:=first|exact dsc|fail) only [go_sem,seval,hl3,n0,n1,n2,hcb]
  (repeat refine .z rfl ?_); refine .text ?_; simp (disch:=first|exact dsc|fail) only [go_sem,seval,hl3,n0,n1,n2,hcb]
  (repeat refine .z rfl ?_); refine .text ?_; simp (disch:=first|exact dsc|fail) only [go_sem,seval,hl3,n0,n1,n2,hcb]
  (repeat refine .z rfl ?_); refine .text ?_; simp (disch:=first|exact dsc|fail) only [go_sem,seval,hl3,n0,n1,n2,hcb]
  (repeat refine .z rfl ?_); refine .text ?_; simp (disch:=first|exact dsc|fail) only [go_sem,seval,hl3,n0,n1,n2,hcb]
  (repeat refine .z rfl ?_)
  refine .openFast follows (by kernel_rfl) ?_
  simp only [List.append_eq,List.cons_append,List.nil_append]
  have q1 : rootE 1 = 0 := rfl
  have q3 : rootE 3 = 0 := rfl
  have q0 : rootE 0 = 1 := rfl
  simp (disch:=first|exact dsc|fail) only [go_sem,seval,hr,lr,lA,lB,lC,lab,q1,q3,q0,k1,k0,k11,k3,k2,cells_db]
  have hAC : ∀ d ∈ [a,c],d.length = 32 := by simp [lA,lC]
  have hR1 : ∀ d ∈ [r],d.length = 32 := by simp [lr]
  have hAB1 : ∀ d ∈ [ab],d.length = 32 := by simp [lab]
  have hABC : ∀ d ∈ [ab,c],d.length = 32 := by simp [lab,lC]
  have hbag0 : bagD [] = zeroD := rfl
  have hz : decide (zeroD = [0#8,0#8,0#8,0#8,0#8,0#8,0#8,0#8,0#8,0#8,0#8,0#8,0#8,0#8,0#8,0#8,0#8,0#8,0#8,0#8,0#8,0#8,0#8,0#8,0#8,0#8,0#8,0#8,0#8,0#8,0#8,0#8]) = true := rfl
  have shl : ∀ x : BitVec 8,Short [ [x] ] := fun x i hi => by
    simp at hi; subst hi; simp [nth]
  refine CallD.still (fun R h => PairR_spec ab c lab lC _ R h) ?_; simp (disch:=first|exact dsc|fail) only [go_sem,seval,hr,lr,lA,lB,lC,lab,q1,q3,q0,k1,k0,k11,k3,k2,cells_db]
  refine CallD.still (fun R h => SameR_spec [a,c] [a,c] hAC hAC (by simp) (by simp) _ R h) ?_; simp (disch:=first|exact dsc|fail) only [go_sem,seval,hr,lr,lA,lB,lC,lab,q1,q3,q0,k1,k0,k11,k3,k2,cells_db]
  refine CallD.still (fun R h => SameR_spec [r] [r] hR1 hR1 (by simp) (by simp) _ R h) ?_; simp (disch:=first|exact dsc|fail) only [go_sem,seval,hr,lr,lA,lB,lC,lab,q1,q3,q0,k1,k0,k11,k3,k2,cells_db]
  refine CallD.still (fun R h => SameR_spec [ab] [ab] hAB1 hAB1 (by simp) (by simp) _ R h) ?_; simp (disch:=first|exact dsc|fail) only [go_sem,seval,hr,lr,lA,lB,lC,lab,q1,q3,q0,k1,k0,k11,k3,k2,cells_db]
  refine CallD.still (fun R h => SameR_spec [ab,c] [ab,c] hABC hABC (by simp) (by simp) _ R h) ?_; simp (disch:=first|exact dsc|fail) only [go_sem,seval,hr,lr,lA,lB,lC,lab,q1,q3,q0,k1,k0,k11,k3,k2,cells_db]
  refine CallD.still (fun R h => Bag_spec hG' [ab,c] (by simp) hABC _ R h) ?_; simp (disch:=first|exact dsc|fail) only [go_sem,seval,hr,lr,lA,lB,lC,lab,q1,q3,q0,k1,k0,k11,k3,k2,cells_db,s6]
  refine CallD.still (fun R h => nil_arg (xs := []) (ys := []) (fl := false) (sz := 32) (Bag_spec hG' [] (by simp) (by simp) _ R h)) ?_; simp (disch:=first|exact dsc|fail) only [go_sem,seval,hbag0,hz,z3,hr,lr,lA,lB,lC,lab,q1,q3,q0,k1,k0,k11,k3,k2,cells_db]
  refine CallD.still (fun R h => Verify_spec hG' r lr 3 (by omega) (by omega) [1] (by simp) [ [98#8] ] [a,c] (shl _) (by simp) hAC (by simp) _ R h) ?_; simp (disch:=first|exact dsc|fail) only [go_sem,seval,s7,hr,lr,lA,lB,lC,lab,q1,q3,q0,k1,k0,k11,k3,k2,cells_db]
  refine CallD.still (fun R h => Verify_spec hG' r lr 3 (by omega) (by omega) [1] (by simp) [ [97#8] ] [a,c] (shl _) (by simp) hAC (by simp) _ R h) ?_; simp (disch:=first|exact dsc|fail) only [go_sem,seval,s8,hr,lr,lA,lB,lC,lab,q1,q3,q0,k1,k0,k11,k3,k2,cells_db]
  refine CallD.still (fun R h => Verify_spec hG' r lr 3 (by omega) (by omega) [1] (by simp) [] [a,c] hshN (by simp) hAC (by simp) _ R h) ?_; simp (disch:=first|exact dsc|fail) only [go_sem,seval,san_ver3,hr,lr,lA,lB,lC,lab,q1,q3,q0,k1,k0,k11,k3,k2,cells_db]
  refine CallD.still (fun R h => Verify_spec hG' r lr 0 (by omega) (by omega) [] (by simp) [] [a,c] hshN (by simp) hAC (by simp) _ R h) ?_; simp (disch:=first|exact dsc|fail) only [go_sem,seval,san_ver0,hr,lr,lA,lB,lC,lab,q1,q3,q0,k1,k0,k11,k3,k2,cells_db]
  refine CallD.still (fun R h => Verify_spec hG' r lr 65537 (by omega) (by omega) [] (by simp) [] [a,c] hshN (by simp) hAC (by simp) _ R h) ?_; simp (disch:=first|exact dsc|fail) only [go_sem,seval,san_verB,hr,lr,lA,lB,lC,lab,q1,q3,q0,k1,k0,k11,k3,k2,cells_db]
  refine CallD.still (fun R h => Contains_spec hG' [ab,c] (by simp) hABC 3 2 (by omega) (by omega) (by omega) [99#8] (by simp) [ab] (by simp) hAB1 _ R h) ?_; simp (disch:=first|exact dsc|fail) only [go_sem,seval,c1,hr,lr,lA,lB,lC,lab,q1,q3,q0,k1,k0,k11,k3,k2,cells_db]
  refine CallD.still (fun R h => Contains_spec hG' [ab,c] (by simp) hABC 3 1 (by omega) (by omega) (by omega) [99#8] (by simp) [ab] (by simp) hAB1 _ R h) ?_; simp (disch:=first|exact dsc|fail) only [go_sem,seval,c2,hr,lr,lA,lB,lC,lab,q1,q3,q0,k1,k0,k11,k3,k2,cells_db]
  refine CallD.still (fun R h => Contains_spec hG' [ab] (by simp) hAB1 3 2 (by omega) (by omega) (by omega) [99#8] (by simp) [ab] (by simp) hAB1 _ R h) ?_; simp (disch:=first|exact dsc|fail) only [go_sem,seval,c3,hr,lr,lA,lB,lC,lab,q1,q3,q0,k1,k0,k11,k3,k2,cells_db]
  (repeat refine .z rfl ?_); refine .rt Tryd.func9 (by rw [Tryd.results9]) (hR := ?_); simp (disch:=first|exact dsc|fail) only [go_sem,seval]
  exact h
end walks
end Go.Proofs.YthonhnpiglafkaaDoor

/-
  Hash trees: the peaks after pushing leaves one by one,and their bag.
-/
namespace Go.Proofs.YthonhnpiglafkaaDoor
open Go Go.AL

def peakF : Nat → List By → List By
  | 0,_ => []
  | f + 1,ls => if ls = [] then [] else rootD (ls.take (2 ^ Nat.log2 ls.length)) :: peakF f (ls.drop (2 ^ Nat.log2 ls.length))
def peaks (ls : List By) : List By := peakF ls.length ls

theorem lg_bd {n : Nat} (h : n ≠ 0) : 2 ^ Nat.log2 n ≤ n ∧ n < 2 * 2 ^ Nat.log2 n := by
  refine ⟨Nat.log2_self_le h,?_⟩
  have := (Nat.log2_lt h).1 (Nat.lt_succ_self (Nat.log2 n))
  rw [Nat.pow_succ] at this
  omega
theorem pw_pos (a : Nat) : 1 ≤ 2 ^ a := Nat.one_le_two_pow
theorem peakF_eq : ∀ (f g : Nat) (ls : List By),ls.length ≤ f → ls.length ≤ g → peakF f ls = peakF g ls
  | 0,g,ls,h1,h2 => by
    have : ls = [] := List.length_eq_zero_iff.1 (by omega)
    subst this
    cases g <;> simp [peakF]
  | f + 1,0,ls,h1,h2 => by
    have : ls = [] := List.length_eq_zero_iff.1 (by omega)
    subst this
    simp [peakF]
  | f + 1,g + 1,ls,h1,h2 => by
    by_cases e : ls = []
    · subst e; simp [peakF]
    · have hl : ls.length ≠ 0 := fun h => e (List.length_eq_zero_iff.1 h)
      have := pw_pos (Nat.log2 ls.length)
      rw [peakF,peakF,if_neg e,if_neg e,peakF_eq f g _ (by rw [List.length_drop]; omega) (by rw [List.length_drop]; omega)]
theorem peaks_nil : peaks [] = [] := rfl
theorem peaks_cons {ls : List By} (h : ls ≠ []) : peaks ls = rootD (ls.take (2 ^ Nat.log2 ls.length)) :: peaks (ls.drop (2 ^ Nat.log2 ls.length)) := by
  have hl : ls.length ≠ 0 := fun e => h (List.length_eq_zero_iff.1 e)
  obtain ⟨n,hn⟩ : ∃ n,ls.length = n + 1 := ⟨ls.length - 1,by omega⟩
  have := pw_pos (Nat.log2 ls.length)
  conv => lhs; unfold peaks; rw [hn,peakF]
  rw [if_neg h,peakF_eq n _ _ (by rw [List.length_drop]; omega) (Nat.le_refl _)]
  rfl
theorem peaks_mem : ∀ (n : Nat) (ls : List By),ls.length ≤ n → ∀ d ∈ peaks ls,d.length = 32
  | 0,ls,h => by
    have : ls = [] := List.length_eq_zero_iff.1 (by omega)
    subst this
    intro d hd; cases hd
  | n + 1,ls,h => by
    intro d hd
    by_cases e : ls = []
    · subst e; cases hd
    · have hl : ls.length ≠ 0 := fun h => e (List.length_eq_zero_iff.1 h)
      have hp := pw_pos (Nat.log2 ls.length)
      rw [peaks_cons e] at hd
      rcases List.mem_cons.1 hd with rfl | hd
      · exact rootD_len (by rw [List.length_take]; omega)
      · exact peaks_mem n _ (by rw [List.length_drop]; omega) d hd
theorem peaks_ne {ls : List By} (h : ls ≠ []) : peaks ls ≠ [] := by rw [peaks_cons h]; exact fun e => by cases e

theorem spl_lg : ∀ n : Fin 100,2 ≤ n.val → 2 ^ Nat.log2 n.val < n.val → spl n.val = 2 ^ Nat.log2 n.val := by decide +kernel
theorem bag_peaks : ∀ (n : Nat) (ls : List By),ls.length ≤ n → n < 100 → ls ≠ [] → bagD (peaks ls) = rootD ls
  | 0,ls,h,_,h0 => absurd (List.length_eq_zero_iff.1 (by omega)) h0
  | n + 1,ls,h,hn,h0 => by
    have hl : ls.length ≠ 0 := fun e => h0 (List.length_eq_zero_iff.1 e)
    have hb := lg_bd hl
    have hp := pw_pos (Nat.log2 ls.length)
    have hs := spl_lg ⟨ls.length,by omega⟩
    dsimp only at hs
    rw [peaks_cons h0]
    generalize hk : 2 ^ Nat.log2 ls.length = k at *
    by_cases e : ls.drop k = []
    · have hle : ls.length ≤ k := by have := congrArg List.length e; rw [List.length_drop] at this; simp at this; omega
      rw [e,peaks_nil,bagD,List.take_of_length_le hle]
    · have hlt : k < ls.length := by
        rcases Nat.lt_or_ge k ls.length with h1 | h1
        · exact h1
        · exact absurd (List.drop_of_length_le h1) e
      have ih := bag_peaks n (ls.drop k) (by rw [List.length_drop]; omega) (by omega) e
      have hc : ∀ x : By,bagD (x :: peaks (ls.drop k)) = pair x (bagD (peaks (ls.drop k))) := fun x => by
        have := peaks_ne e
        cases hq : peaks (ls.drop k) with
        | nil => exact absurd hq this
        | cons y l => rw [bagD]
      rw [hc,ih,rootD_two (ls := ls) (by omega),hs (by omega) hlt]

def pcF : Nat → Nat → Nat
  | 0,_ => 0
  | f + 1,n => n % 2 + pcF f (n / 2)
theorem pcF_eq : ∀ f n,n < 2 ^ f → pcF f n = pc n
  | 0,n,h => by
    have : n = 0 := by simpa using h
    subst this; rw [pc_zero]; rfl
  | f + 1,n,h => by
    by_cases e : n = 0
    · subst e
      rw [pcF,pcF_eq f _ (by have := pw_pos f; omega),pc_zero]
    · rw [pcF,pc_pos e,pcF_eq f _ (by rw [Nat.pow_succ] at h; omega)]
theorem pc_lg : ∀ n : Fin 100,n.val ≠ 0 → pcF 7 n.val = pcF 7 (n.val - 2 ^ Nat.log2 n.val) + 1 := by decide +kernel
theorem peaks_len : ∀ (n : Nat) (ls : List By),ls.length ≤ n → n < 100 → (peaks ls).length = pc ls.length
  | 0,ls,h,_ => by
    have : ls = [] := List.length_eq_zero_iff.1 (by omega)
    subst this
    rw [peaks_nil,List.length_nil,pc_zero]
  | n + 1,ls,h,hn => by
    by_cases e : ls = []
    · subst e; rw [peaks_nil,List.length_nil,pc_zero]
    · have hl : ls.length ≠ 0 := fun h => e (List.length_eq_zero_iff.1 h)
      have hp := pw_pos (Nat.log2 ls.length)
      have hq := pc_lg ⟨ls.length,by omega⟩ hl
      dsimp only at hq
      rw [peaks_cons e,List.length_cons,peaks_len n _ (by rw [List.length_drop]; omega) (by omega),List.length_drop,← pcF_eq 7 _ (by omega),← pcF_eq 7 _ (by omega),hq]

theorem pushI_cons {a : By} {P : List By} {b : By} : ∀ i,i ≤ P.length → pushI (a :: P) b i = pushI P b i
  | 0,_ => rfl
  | i + 1,h => by
    have e : nth (a :: P) ((a :: P).length - 1 - i) = nth P (P.length - 1 - i) := by
      rw [List.length_cons,show P.length + 1 - 1 - i = (P.length - 1 - i) + 1 by omega]
      unfold nth
      rw [List.getElem?_cons_succ]
    rw [pushI,pushI,pushI_cons i (by omega),e]
theorem pushI_all {a : By} {P : List By} {b : By} : pushI (a :: P) b (P.length + 1) = pair a (pushI P b P.length) := by
  rw [pushI,pushI_cons _ (Nat.le_refl _)]
  congr 1
  rw [List.length_cons,show P.length + 1 - 1 - P.length = 0 by omega]
  rfl
theorem ones_low : ∀ n : Fin 100,n.val ≠ 0 → n.val - 2 ^ Nat.log2 n.val + 1 < 2 ^ Nat.log2 n.val → ones 64 n.val = ones 64 (n.val - 2 ^ Nat.log2 n.val) ∧ Nat.log2 (n.val + 1) = Nat.log2 n.val ∧ ones 64 (n.val - 2 ^ Nat.log2 n.val) ≤ pcF 7 (n.val - 2 ^ Nat.log2 n.val) := by decide +kernel
theorem ones_all : ∀ n : Fin 100,n.val ≠ 0 → n.val - 2 ^ Nat.log2 n.val + 1 = 2 ^ Nat.log2 n.val → ones 64 n.val = pcF 7 n.val ∧ 2 ^ Nat.log2 (n.val + 1) = n.val + 1 ∧ spl (n.val + 1) = 2 ^ Nat.log2 n.val ∧ ones 64 (n.val - 2 ^ Nat.log2 n.val) = pcF 7 (n.val - 2 ^ Nat.log2 n.val) := by decide +kernel
theorem ones_pc : ∀ n : Fin 100,ones 64 n.val ≤ pcF 7 n.val := by decide +kernel

theorem peaks_one (x : By) : peaks ([] ++ [x]) = pushD (peaks []) 0 x := by
  have h1 : peaks [x] = [rootD [x]] := peaks_cons (by simp)
  have h2 : rootD [x] = leaf x := rootD_one rfl
  have h3 : pushD [] 0 x = [leaf x] := rfl
  rw [List.nil_append,h1,h2,peaks_nil,h3]
theorem peaks_push : ∀ (n : Nat) (ls : List By) (x : By),ls.length ≤ n → n < 99 → peaks (ls ++ [x]) = pushD (peaks ls) ls.length x
  | 0,ls,x,h,_ => by
    have : ls = [] := List.length_eq_zero_iff.1 (by omega)
    subst this
    exact peaks_one x
  | n + 1,ls,x,h,hn => by
    by_cases e : ls = []
    · subst e; exact peaks_one x
    · have hl : ls.length ≠ 0 := fun h => e (List.length_eq_zero_iff.1 h)
      have hb := lg_bd hl
      have hp := pw_pos (Nat.log2 ls.length)
      have hlow := ones_low ⟨ls.length,by omega⟩ hl
      have hall := ones_all ⟨ls.length,by omega⟩ hl
      have hpc := pc_lg ⟨ls.length,by omega⟩ hl
      dsimp only at hlow hall hpc
      have hP := peaks_len (n + 1) ls h (by omega)
      rw [← pcF_eq 7 _ (by omega)] at hP
      have hne : ls ++ [x] ≠ [] := by simp
      have hlen : (ls ++ [x]).length = ls.length + 1 := by simp
      rw [peaks_cons hne,hlen]
      have hc := peaks_cons e
      have ih := peaks_push n (ls.drop (2 ^ Nat.log2 ls.length)) x (by rw [List.length_drop]; omega) (by omega)
      have hQ := peaks_len n (ls.drop (2 ^ Nat.log2 ls.length)) (by rw [List.length_drop]; omega) (by omega)
      rw [List.length_drop] at ih hQ
      rw [← pcF_eq 7 _ (by omega)] at hQ
      by_cases c : ls.length - 2 ^ Nat.log2 ls.length + 1 < 2 ^ Nat.log2 ls.length
      · obtain ⟨o1,o2,o3⟩ := hlow c
        rw [o2]
        generalize hk : 2 ^ Nat.log2 ls.length = k at *
        rw [List.take_append_of_le_length (by omega),List.drop_append_of_le_length (by omega),ih,hc]
        unfold pushD
        rw [o1,List.length_cons,hQ,show pcF 7 (ls.length - k) + 1 - ones 64 (ls.length - k) = (pcF 7 (ls.length - k) - ones 64 (ls.length - k)) + 1 by omega,List.take_succ_cons,pushI_cons _ (by omega)]
        rfl
      · obtain ⟨o1,o2,o3,o4⟩ := hall (by omega)
        rw [o2,show ls.length + 1 = (ls ++ [x]).length by simp,List.take_length,List.drop_length,peaks_nil]
        generalize hk : 2 ^ Nat.log2 ls.length = k at *
        have hd : peaks (ls.drop k ++ [x]) = [rootD (ls.drop k ++ [x])] := by
          have hne2 : ls.drop k ++ [x] ≠ [] := by simp
          have hl2 : (ls.drop k ++ [x]).length = k := by simp; omega
          have hkk : 2 ^ Nat.log2 k = k := by rw [← hk,Nat.log2_two_pow]
          have hT : (ls.drop k ++ [x]).take k = ls.drop k ++ [x] := List.take_of_length_le (by omega)
          have hD : (ls.drop k ++ [x]).drop k = [] := List.drop_of_length_le (by omega)
          rw [peaks_cons hne2,hl2,hkk,hT,hD,peaks_nil]
        have hroot : rootD (ls ++ [x]) = pair (rootD (ls.take k)) (rootD (ls.drop k ++ [x])) := by
          rw [rootD_two (by rw [hlen]; omega),hlen,o3,List.take_append_of_le_length (by omega),List.drop_append_of_le_length (by omega)]
        rw [hd] at ih
        unfold pushD at ih ⊢
        rw [o4,← hQ,Nat.sub_self,List.take_zero,List.nil_append] at ih
        have ih' : rootD (ls.drop k ++ [x]) = pushI (peaks (ls.drop k)) x (peaks (ls.drop k)).length := by injection ih
        rw [hP,o1,Nat.sub_self,List.take_zero,List.nil_append,hroot,ih',hpc,← hQ,hc,pushI_all]
end Go.Proofs.YthonhnpiglafkaaDoor

/-
  Hash trees: the reference's Push.
-/
namespace Go.Proofs.YthonhnpiglafkaaDoor
open Go Go.AL

theorem ones_bit : ∀ (f n i : Nat),i < ones f n → n / 2 ^ i % 2 = 1
  | 0,n,i,h => by simp [ones] at h
  | f + 1,n,i,h => by
    rw [ones] at h
    split at h
    · rename_i e
      rcases i with _ | i
      · simpa using e
      · rw [Nat.pow_succ,Nat.mul_comm,← Nat.div_div_eq_div_mul]
        exact ones_bit f (n / 2) i (by omega)
    · omega
theorem ones_end : ∀ (f n : Nat),ones f n < f → n / 2 ^ ones f n % 2 = 0
  | 0,n,h => by omega
  | f + 1,n,h => by
    rw [ones] at h ⊢
    split at h
    · rename_i e
      rw [if_pos e,Nat.pow_succ,Nat.mul_comm,← Nat.div_div_eq_div_mul]
      exact ones_end f (n / 2) (by omega)
    · rename_i e
      rw [if_neg e]
      simp; omega
theorem ones_small : ∀ n : Fin 128,ones 64 n.val < 64 := by decide +kernel

def pushH (H : Hp) (d : By) (i : Nat) (c : List AV) : Hp := app ((H.new .dead).new (.cells (cl b8 d))) (List.replicate i .dead ++ [.vec c])
section heap
variable {H : Hp} {d : By} {i : Nat} {c : List AV}
theorem pushH_n : (pushH H d i c).n = H.n + 3 + i := by
  unfold pushH
  rw [app_n',n_new',n_new']; simp; omega
theorem pushH_v : (pushH H d i c).f (H.n + 2 + i) = some (.vec c) := by
  unfold pushH
  have := app_at (H := (H.new .dead).new (.cells (cl b8 d))) (T := List.replicate i .dead ++ [.vec c]) (i := i)
  rw [n_new',n_new'] at this
  rw [show H.n + 2 + i = H.n + 1 + 1 + i by omega,this,List.getElem?_append_right (by simp)]
  simp
theorem pushH_d : (pushH H d i c).f (H.n + 1) = some (.cells (cl b8 d)) := by
  unfold pushH
  rw [app_f (by rw [n_new',n_new']; omega),f_new_eq (by rw [n_new'])]
theorem pushH_setd {d' : By} : (pushH H d i c).set (H.n + 1) (.cells (cl b8 d')) = pushH H d' i c := by
  unfold pushH
  rw [app_set (by rw [n_new',n_new']; omega),set_new_eq (by rw [n_new'])]
theorem pushH_setv {x : AB} : (pushH H d i c).set (H.n + 2 + i) x = app ((H.new .dead).new (.cells (cl b8 d))) (List.replicate i .dead ++ [x]) := by
  unfold pushH
  have := app_set_hi (x := x) (T := List.replicate i .dead ++ [.vec c]) (H := (H.new .dead).new (.cells (cl b8 d))) (k := i) (by simp)
  rw [n_new',n_new'] at this
  have e : (List.replicate i AB.dead ++ [AB.vec c]).set i x = List.replicate i .dead ++ [x] := by
    rw [List.set_append_right _ _ (by simp)]; simp
  rw [show H.n + 2 + i = H.n + 1 + 1 + i by omega,this,e]
theorem pushH_setc {c' : List AV} : (pushH H d i c).set (H.n + 2 + i) (.vec c') = pushH H d i c' := by
  rw [pushH_setv]; rfl
theorem pushH_cut {c' : List AV} : ((pushH H d i c).set (H.n + 2 + i) .dead).new (.vec c') = pushH H d (i + 1) c' := by
  rw [pushH_setv,app_push]
  unfold pushH
  rw [List.replicate_succ',List.append_assoc]
theorem pushH_trunc {x : AB} : ((pushH H d i c).set (H.n + 2 + i) x).trunc H.n = H := by
  rw [pushH_setv,app_trunc (by rw [n_new',n_new']; omega),trunc_new' (by rw [n_new']; omega),trunc_new' (Nat.le_refl _),trunc_eq rfl]
theorem pushH_bel {L : List By} (h : Bel H.n H) : Bel H.n (pushH H d i (cl b8 L.flatten)) := by
  unfold pushH
  have h1 : Bel H.n ((H.new .dead).new (.cells (cl b8 d))) := bel_newx (bel_newx h fun y hy => by cases hy) fun y hy => by
    simp only [AB.vals,cl,List.mem_map] at hy
    obtain ⟨x,_,rfl⟩ := hy
    exact .p _
  generalize (H.new .dead).new (.cells (cl b8 d)) = B at h1
  induction i generalizing B with
  | zero =>
    refine bel_newx h1 fun y hy => ?_
    simp only [AB.vals,Option.getD_some,cl,List.mem_map] at hy
    obtain ⟨x,_,rfl⟩ := hy
    exact .p _
  | succ i ih => exact ih (B.new .dead) (bel_newx h1 fun y hy => by cases hy)
end heap

section walks
variable {G : Globs}
set_option maxHeartbeats 8000000 in
theorem PushR_spec (P : List By) (hl : P.length ≤ 100000) (hP : ∀ d ∈ P,d.length = 32) (n : Nat) (hn : n < 128) (ho : ones 64 n ≤ P.length) (b : By) (hb : b.length ≤ 800000) (H : Hp) (R : AV → Hp → Prop)
    (h : R (.p (.sl false 32 (pl db (pushD P n b)))) H) : ACall Tryd.prog G 19 [.p (.sl false 32 (pl db P)),.p (i64 n),.p (.sl false 1 (pl b8 b))] H R := by
  have hfl := flat_len32 hP
  refine ACall.of_run (raw := []) Tryd.func19 rfl Tryd.ntmps19 (by simp) fun hbel => ?_
  (repeat refine .z rfl ?_); refine .text ?_; simp (disch:=first|exact dsc|fail) only [go_sem,seval]
  (repeat refine .z rfl ?_); refine .region ?_
  refine .one rfl (by simp (disch:=first|exact dsc|fail) only [go_sem,seval] <;> rfl) rfl ?_
  refine .vec 9 (by simp (disch:=first|exact dsc|fail) only [go_sem,seval] <;> rfl) ?_
  refine .run ?_
  simp (disch:=first|exact dsc|fail) only [go_sem,seval,flat_db,hfl]
  refine CallK.of (fun R h => LeafR_spec b (by omega) _ R h) ?_; simp (disch:=first|exact dsc|fail) only [go_sem,seval,flat_db,hfl]
  (repeat refine .z rfl ?_); refine .renV 7 (b := H.n) (len := P.length) (sz := 32) (cs := cl b8 P.flatten) (by simp (disch:=first|exact dsc|fail) only [go_sem,seval] <;> rfl) (by simp (disch:=first|exact dsc|fail) only [go_sem,seval] <;> rfl) (by rw [cl_len,hfl]) ?_
  have h0 : ((H.new (.vec (cl b8 P.flatten))).new (.cells (cl b8 (leaf b)))).set H.n .dead = (H.new .dead).new (.cells (cl b8 (leaf b))) := by simp (disch:=first|exact dsc|fail) only [go_sem,seval]
  have h1 : (((H.new (.vec (cl b8 P.flatten))).new (.cells (cl b8 (leaf b)))).set H.n .dead).new (.vec (cl b8 P.flatten)) = pushH H (pushI P b 0) 0 (cl b8 (P.take (P.length - 0)).flatten) := by
    rw [h0,Nat.sub_zero,List.take_length]; rfl
  rw [h1]
  have hd1 : n / 2 ^ 0 = n := by simp
  (repeat refine .z rfl ?_); refine .loopH [] (fun i => [(1,.p (i64 (n / 2 ^ i : Nat))),(7,.vr (H.n + 2 + i) (P.length - i) 32),(8,.ptr (H.n + 1) 0)]) (fun i => pushH H (pushI P b i) i (cl b8 (P.take (P.length - i)).flatten)) (fun i => True) (0) (ones 64 n) (by omega) ?_ (by first | rfl | (simp (disch:=first|exact dsc|fail) only [go_sem,seval,hd1,Nat.sub_zero] <;> rfl)) ?_ ?_ ?_
  · simp (disch:=first|exact dsc|fail) only [go_sem,seval,hd1,Nat.sub_zero] <;> (repeat' (first | rfl | refine And.intro ?_ ?_))
  · exact trivial
  intro env E hQ; simp (disch:=first|exact dsc|fail) only [go_sem,seval,hd1,Nat.sub_zero] at E
  rotate_left 1
  intro i env hi0 hi E hQ ihE; simp (disch:=first|exact dsc|fail) only [go_sem,seval,hd1,Nat.sub_zero] at E
  rotate_left 1
  · have he := ones_end 64 n (ones_small ⟨n,hn⟩)
    unfold pushD at h
    generalize ones 64 n = o at *
    have hb0 : (((n / 2 ^ o : Nat) : Int) % 2 == 1) = false := by rw [beq_eq_false_iff_ne]; omega
    have hq := pushI_len (P := P) (b := b) o
    have hpm : ∀ d ∈ P.take (P.length - o),d.length = 32 := fun d hd => hP d (List.mem_of_mem_take hd)
    have hfl2 := flat_len32 hpm
    rw [List.length_take,Nat.min_eq_left (by omega)] at hfl2
    have hcat : (P.take (P.length - o)).flatten ++ pushI P b o = (P.take (P.length - o) ++ [pushI P b o]).flatten := by simp
    have hm2 : ∀ d ∈ P.take (P.length - o) ++ [pushI P b o],d.length = 32 := fun d hd => by
      rcases List.mem_append.1 hd with h | h
      · exact hpm d h
      · rw [List.mem_singleton.1 h]; exact hq
    have hl2 : (P.take (P.length - o) ++ [pushI P b o]).length = P.length - o + 1 := by simp
    generalize pushI P b o = d at *
    generalize P.take (P.length - o) = L at *
    (repeat refine .z rfl ?_); refine .text ?_; simp (disch:=first|exact dsc|fail) only [go_sem,seval,E,hb0]
    (repeat refine .z rfl ?_); refine .ifF (by simp (disch:=first|exact dsc|fail) only [go_sem,seval]) ?_
    (repeat refine .z rfl ?_); refine .text ?_; simp (disch:=first|exact dsc|fail) only [go_sem,seval,E,pushH_d,pushH_v,hq,hfl2]
    rw [pushH_setc,hcat]
    generalize L ++ [d] = L3 at *
    have hbel := pushH_bel (d := d) (i := o) (L := L3) hbel
    (repeat refine .z rfl ?_); refine .frzV 6 (by simp (disch:=first|exact dsc|fail) only [go_sem,seval,pushH_v]; rfl) (by simp (disch:=first|exact dsc|fail) only [go_sem,seval,pushH_v] <;> rfl) (xs := pl db L3) (by rw [flat_db,pl_p]) (by rw [pl_len,hl2]) (fun x hx => by simp only [pl,List.mem_map] at hx; obtain ⟨y,hy,rfl⟩ := hx; rw [cells_db,pl_len]; exact hm2 y hy) ?_; (try simp (disch:=first|exact dsc|fail) only [go_sem,seval,pushH_v])
    (repeat refine .z rfl ?_); refine .rt Tryd.func19 (by rw [Tryd.results19]) (hx := by simp (disch:=first|exact dsc|fail) only [go_sem,seval,pushH_trunc]; rfl) (hR := ?_); simp (disch:=first|exact dsc|fail) only [go_sem,seval,pushH_trunc]
    exact h
  · have hbit := ones_bit 64 n i hi
    have hb1 : (((n / 2 ^ i : Nat) : Int) % 2 == 1) = true := by rw [beq_iff_eq]; omega
    have hq := pushI_len (P := P) (b := b) i
    have hpm : ∀ d ∈ P.take (P.length - i),d.length = 32 := fun d hd => hP d (List.mem_of_mem_take hd)
    have hlt : (P.take (P.length - i)).length = P.length - i := by rw [List.length_take]; omega
    have hfl2 := flat_len32 hpm
    rw [hlt] at hfl2
    have g := flat_get hpm (i := P.length - i - 1) (by omega)
    have hnt : nth (P.take (P.length - i)) (P.length - i - 1) = nth P (P.length - 1 - i) := by
      unfold nth
      rw [List.getElem?_take,if_pos (by omega),show P.length - i - 1 = P.length - 1 - i by omega]
    rw [hnt] at g
    have gc : List.take 32 (List.drop ((P.length - i - 1) * 32) (cl b8 (P.take (P.length - i)).flatten)) = cl b8 (nth P (P.length - 1 - i)) := by rw [cl_drop,cl_take,g]
    have hn2 : (nth P (P.length - 1 - i)).length = 32 := hP _ (nth_mem (by omega))
    have hst : pushI P b (i + 1) = pair (nth P (P.length - 1 - i)) (pushI P b i) := rfl
    have hcut : (cl b8 (P.take (P.length - i)).flatten).take ((P.length - (i + 1)) * 32) = cl b8 (P.take (P.length - (i + 1))).flatten := by
      have h1 : P.take (P.length - i) = P.take (P.length - (i + 1)) ++ [nth P (P.length - 1 - i)] := by
        rw [show P.length - i = (P.length - 1 - i) + 1 by omega,List.take_add_one,List.getElem?_eq_getElem (by omega),show P.length - (i + 1) = P.length - 1 - i by omega]
        have : nth P (P.length - 1 - i) = P[P.length - 1 - i]'(by omega) := by unfold nth; rw [List.getElem?_eq_getElem (by omega)]; rfl
        rw [this]; rfl
      have h2 : (P.take (P.length - (i + 1))).flatten.length = (P.length - (i + 1)) * 32 := by
        rw [flat_len32 fun d hd => hP d (List.mem_of_mem_take hd),List.length_take,Nat.min_eq_left (by omega)]
      rw [cl_take,h1,List.flatten_append,List.take_append_of_le_length (by omega),List.take_of_length_le (by omega)]
    rw [hst] at ihE
    generalize pushI P b i = d at *
    generalize hx : nth P (P.length - 1 - i) = x at *
    generalize hL : P.take (P.length - i) = L at *
    generalize hL2 : P.take (P.length - (i + 1)) = L2 at *
    (repeat refine .z rfl ?_); refine .text ?_; simp (disch:=first|exact dsc|fail) only [go_sem,seval,E,hb1]
    (repeat refine .z rfl ?_); refine .ifT (by simp (disch:=first|exact dsc|fail) only [go_sem,seval]) ?_
    have hi1 : ((P.length - i : Nat) : Int) - 1 = ((P.length - i - 1 : Nat) : Int) := by omega
    (repeat refine .z rfl ?_); refine .open [8] follows (by kernel_rfl) ?_; simp (disch:=first|exact dsc|fail) only [go_sem,seval,E,pushH_d,pushH_v,hi1,gc,hfl2,hn2,hq,cells_db,aggOf_db hn2]
    have hpl := pair_len x d
    refine CallD.still (fun R h => PairR_spec x d hn2 hq _ R h) ?_; simp (disch:=first|exact dsc|fail) only [go_sem,seval,E,pushH_d,pushH_v,hi1,hn2,hq,hpl,pushH_setd]
    (repeat refine .z rfl ?_); refine .region ?_
    refine .one rfl (by simp (disch:=first|exact dsc|fail) only [go_sem,seval,E] <;> rfl) rfl ?_
    refine .one rfl (by simp (disch:=first|exact dsc|fail) only [go_sem,seval,E] <;> rfl) rfl ?_
    refine .one rfl (by simp (disch:=first|exact dsc|fail) only [go_sem,seval,E] <;> rfl) rfl ?_
    refine .one rfl (by simp (disch:=first|exact dsc|fail) only [go_sem,seval,E,hi1] <;> rfl) rfl ?_
    refine .cutV (e := 31) (b := H.n + 2 + i) (len := P.length - i) (sz := 32) (n := P.length - i - 1) (cs := cl b8 L.flatten) (by simp (disch:=first|exact dsc|fail) only [go_sem,seval] <;> rfl) (by simp (disch:=first|exact dsc|fail) only [go_sem,seval,E] <;> rfl) (by simp (disch:=first|exact dsc|fail) only [go_sem,seval,pushH_v] <;> rfl) (by rw [cl_len,hfl2]) (by simp (disch:=first|exact dsc|fail) only [go_sem,seval] <;> rfl) (by omega) (by simp (disch:=first|exact dsc|fail) only [go_sem,seval,E] <;> rfl) (by omega) rfl ?_
    have hcut2 : (cl b8 L.flatten).take ((P.length - i - 1) * 32) = cl b8 L2.flatten := by rw [← hcut,show P.length - i - 1 = P.length - (i + 1) by omega]
    rw [pushH_n,pushH_cut,hcut2,show H.n + 3 + i = H.n + 2 + (i + 1) by omega,show P.length - i - 1 = P.length - (i + 1) by omega]
    refine .run ?_
    simp (disch:=first|exact dsc|fail) only [go_sem,seval,E]
    have hdv : ((n / 2 ^ i : Nat) : Int) / 2 = ((n / 2 ^ (i + 1) : Nat) : Int) := by
      rw [Nat.pow_succ,← Nat.div_div_eq_div_mul]; omega
    have hle := Nat.div_le_self n (2 ^ i)
    generalize n / 2 ^ (i + 1) = c2 at *
    generalize n / 2 ^ i = c1 at *
    (repeat refine .z rfl ?_); refine .text ?_; simp (disch:=first|exact dsc|fail) only [go_sem,seval,E,hdv]
    first | (refine ihE _ _ ?_ trivial ?_) | (refine .z rfl ?_; refine ihE _ _ ?_ trivial ?_) | (refine .z rfl ?_; refine .z rfl ?_; refine ihE _ _ ?_ trivial ?_) | (refine .z rfl ?_; refine .z rfl ?_; refine .z rfl ?_; refine ihE _ _ ?_ trivial ?_)
    · simp (disch:=first|exact dsc|fail) only [go_sem,seval,E,hdv] <;> (repeat' (first | rfl | refine And.intro ?_ ?_))
    · exact rfl
end walks
end Go.Proofs.YthonhnpiglafkaaDoor

/-
  Hash trees: what the opening of any selection of leaves is rebuilt to.
-/
namespace Go.Proofs.YthonhnpiglafkaaDoor
open Go Go.AL





theorem inc_pw {n : Int} {idx : List Int} (h : Inc n idx) : idx.Pairwise (· < ·) ∧ ∀ i ∈ idx,0 ≤ i ∧ i < n := by
  refine ⟨?_,fun i hi => ?_⟩
  · refine asc_pw.1 ?_
    have hs : ∀ i,i + 1 < idx.length → nth idx i < nth idx (i + 1) := fun i hi => by have := (h (i + 1) hi).1; rwa [prevI_succ] at this
    intro i j hij
    induction j with
    | zero => omega
    | succ j ih =>
      intro hj
      rcases Nat.lt_or_ge i j with h1 | h1
      · have := ih h1 (by omega)
        have := hs j hj
        omega
      · obtain rfl : i = j := by omega
        exact hs i hj
  · obtain ⟨j,hj,rfl⟩ := List.getElem_of_mem hi
    have e : nth idx j = idx[j] := by simp [nth,hj]
    rw [← e]
    exact ⟨h.nonneg j hj,(h j hj).2⟩
theorem pw_inc {n : Int} {idx : List Int} (h : idx.Pairwise (· < ·)) (hr : ∀ i ∈ idx,0 ≤ i ∧ i < n) : Inc n idx := by
  intro j hj
  have e : ∀ j,j < idx.length → nth idx j ∈ idx := fun j hj => by
    have : nth idx j = idx[j] := by simp [nth,hj]
    rw [this]; exact List.getElem_mem hj
  have hm := hr _ (e j hj)
  refine ⟨?_,hm.2⟩
  rcases j with _ | j
  · rw [prevI_zero]; omega
  · rw [prevI_succ]
    exact asc_pw.2 h j (j + 1) (by omega) hj

theorem chkE_inc {n : Nat} (h1 : 1 ≤ n) (h2 : n ≤ 65536) {idx : List Int} (h : Inc n idx) : chkE n idx = 0 := by
  rw [chkE,if_pos h,sizeE_nat]
  unfold rootE
  rw [if_neg (by omega),if_neg (by omega)]
theorem inc_chkE {n : Nat} {idx : List Int} (h : chkE n idx = 0) : Inc n idx := by
  by_cases c : Inc n idx
  · exact c
  · rw [chkE,if_neg c] at h
    cases h


theorem openN_len {ls : List By} {idx : List Int} (h1 : 1 ≤ ls.length) : (openN ls idx).length ≤ ls.length := by
  unfold openN
  split
  · rw [List.length_map]
    exact closL_len _ _ 0 _ (by omega)
  · simp
theorem nodeD_len {ls : List By} {r : Nat × Nat} (h1 : r.1 < r.2) (h2 : r.2 ≤ ls.length) : (nodeD ls r).length = 32 := by
  unfold nodeD
  exact rootD_len (by simp; omega)
theorem openN_mem {ls : List By} {idx : List Int} (h1 : 1 ≤ ls.length) : ∀ d ∈ openN ls idx,d.length = 32 := by
  intro d hd
  unfold openN at hd
  split at hd
  · obtain ⟨r,hr,rfl⟩ := List.mem_map.1 hd
    obtain ⟨j,hj,rfl⟩ := List.getElem_of_mem hr
    have h := closL_rng ls.length idx 0 ls.length (by omega) j hj
    have e : nth (closL ls.length idx 0 ls.length) j = (closI ls.length idx)[j] := by
      have : j < (closL ls.length idx 0 ls.length).length := hj
      unfold nth; rw [List.getElem?_eq_getElem this]; rfl
    rw [e] at h
    exact nodeD_len h.2.1 h.2.2
  · cases hd

theorem idxL_inc (m : BitVec 64) : ∀ n : Nat,(idxL m n).Pairwise (· < ·) ∧ ∀ i ∈ idxL m n,0 ≤ i ∧ i < (n : Int)
  | 0 => ⟨List.Pairwise.nil,fun i hi => by cases hi⟩
  | n + 1 => by
    obtain ⟨h1,h2⟩ := idxL_inc m n
    rw [idxL]
    by_cases c : bitB m n = true
    · rw [if_pos c]
      refine ⟨List.pairwise_append.2 ⟨h1,List.pairwise_singleton _ _,fun a ha b hb => ?_⟩,fun i hi => ?_⟩
      · rw [List.mem_singleton.1 hb]; exact (h2 a ha).2
      · rcases List.mem_append.1 hi with hi | hi
        · have := h2 i hi; omega
        · rw [List.mem_singleton.1 hi]; omega
    · rw [if_neg c,List.append_nil]
      exact ⟨h1,fun i hi => by have := h2 i hi; omega⟩
end Go.Proofs.YthonhnpiglafkaaDoor

/-
  Hash trees: sizes of openings and paths.
-/
namespace Go.Proofs.YthonhnpiglafkaaDoor
open Go Go.AL

theorem filter_one_lt {i k : Int} (h : i < k) : ([i].filter fun i => decide (i < k)) = [i] ∧ ([i].filter fun i => decide (k ≤ i)) = [] := by
  constructor
  · rw [List.filter_cons_of_pos (by simpa using h)]; rfl
  · rw [List.filter_cons_of_neg (by simp; omega)]; rfl
theorem filter_one_ge {i k : Int} (h : k ≤ i) : ([i].filter fun i => decide (i < k)) = [] ∧ ([i].filter fun i => decide (k ≤ i)) = [i] := by
  constructor
  · rw [List.filter_cons_of_neg (by simp; omega)]; rfl
  · rw [List.filter_cons_of_pos (by simpa using h)]; rfl
theorem closL_nil {f lo hi : Nat} : closL (f + 1) [] lo hi = [(lo,hi)] := by rw [closL,if_pos rfl]

theorem closL_one : ∀ (f i lo hi : Nat),hi - lo ≤ f → lo ≤ i → i < hi → (closL f [(i : Int)] lo hi).Perm ((stepL f i lo hi).map (·.2))
  | 0,i,lo,hi,h1,h2,h3 => by omega
  | f + 1,i,lo,hi,h1,h2,h3 => by
    rw [closL,stepL,if_neg (by simp)]
    by_cases e : hi - lo = 1
    · rw [if_pos e,if_pos (by omega)]
      exact List.Perm.nil
    · rw [if_neg e,if_neg (by omega)]
      have hs := spl_lt (n := hi - lo) (by omega)
      generalize hk : lo + spl (hi - lo) = k at *
      obtain ⟨g,rfl⟩ : ∃ g,f = g + 1 := ⟨f - 1,by omega⟩
      by_cases c : i < k
      · obtain ⟨f1,f2⟩ := filter_one_lt (i := (i : Int)) (k := (k : Int)) (by omega)
        rw [f1,f2,if_pos c,closL_nil,List.map_cons]
        exact (List.perm_append_comm).trans (List.Perm.cons _ (closL_one (g + 1) i lo k (by omega) h2 c))
      · obtain ⟨f1,f2⟩ := filter_one_ge (i := (i : Int)) (k := (k : Int)) (by omega)
        rw [f1,f2,if_neg c,closL_nil,List.map_cons]
        exact List.Perm.cons _ (closL_one (g + 1) i k hi (by omega) (by omega) h3)

theorem inc_one {n i : Nat} (h : i < n) : Inc n [(i : Int)] := pw_inc (List.pairwise_singleton _ _) fun x hx => by rw [List.mem_singleton.1 hx]; omega
theorem open_one {ls : List By} {i : Nat} (h1 : ls.length ≤ 65536) (h : i < ls.length) : (openN ls [(i : Int)]).Perm (witN ls i) := by
  have hc := chkE_inc (n := ls.length) (by omega) h1 (inc_one h)
  rw [openN,if_pos hc,witN,if_pos hc,Int.toNat_natCast]
  unfold pathD stepC closI
  refine List.Perm.trans ?_ (List.reverse_perm _).symm
  exact (closL_one _ _ _ _ (by omega) (by omega) h).map _


end Go.Proofs.YthonhnpiglafkaaDoor

/-
  Hash trees: the walk of MerkleParts.
-/
namespace Go.Proofs.YthonhnpiglafkaaDoor
open Go Go.AL

theorem madeL_short (q : List By) (k : Nat) (hk : k ≤ 800000) : Short (madeL q k) := by
  intro i hi
  unfold madeL at hi ⊢
  by_cases z : madeN q k = 0
  · rw [if_pos z] at hi ⊢
    simp at hi; subst hi; simp [nth]
  · rw [if_neg z] at hi ⊢
    rw [cutL_len] at hi
    have : ∀ n i,i < n → (nth (cutL q n) i).length ≤ 70 := by
      intro n
      induction n with
      | zero => intro i hi; omega
      | succ n ih =>
        intro i hi
        rcases Nat.lt_or_ge i n with h1 | h1
        · have e : nth (cutL q (n + 1)) i = nth (cutL q n) i := by
            unfold nth
            rw [show cutL q (n + 1) = cutL q n ++ [(nth q n).take 70] from rfl,List.getElem?_append_left (by rw [cutL_len]; exact h1)]
          rw [e]; exact ih i h1
        · obtain rfl : i = n := by omega
          have e : nth (cutL q (i + 1)) i = (nth q i).take 70 := by
            show nth (cutL q i ++ [(nth q i).take 70]) i = _
            conv => lhs; unfold nth
            rw [List.getElem?_append_right (by rw [cutL_len]; omega),cutL_len,Nat.sub_self]
            rfl
          rw [e,List.length_take]; omega
    have := this _ i hi
    omega
theorem rootV_eq {ls : List By} (h1 : 1 ≤ ls.length) (h2 : ls.length ≤ 65536) : rootV ls = rootD ls := by
  rw [rootV,if_pos]
  unfold rootE
  rw [if_neg (by omega),if_neg (by omega)]
theorem rootE_eq {n : Nat} (h1 : 1 ≤ n) (h2 : n ≤ 65536) : rootE n = 0 := by
  unfold rootE
  rw [if_neg (by omega),if_neg (by omega)]

section walks
variable {G : Globs}
end walks
end Go.Proofs.YthonhnpiglafkaaDoor

/-
  Hash trees: the walk of MerkleGrowing.
-/
namespace Go.Proofs.YthonhnpiglafkaaDoor
open Go Go.AL

theorem pcF_le : ∀ n : Fin 100,pcF 7 n.val ≤ 7 := by decide +kernel
section walks
variable {G : Globs}
end walks
end Go.Proofs.YthonhnpiglafkaaDoor

/-
  Hash trees: the walk of MerkleMatchesReference.
-/
namespace Go.Proofs.YthonhnpiglafkaaDoor
open Go Go.AL

section walks
variable {G : Globs}
theorem WitnessR_any (ls : List By) (i : Int) (hi1 : -9223372036854775808 ≤ i) (hi2 : i ≤ 9223372036854775807) (hl : ls.length ≤ 65536) (h1 : 1 ≤ ls.length) (hb : Short ls) (H : Hp) (R : AV → Hp → Prop)
    (h : ∀ (x : AV) (T : List AB),(x = .p (.sl false 32 (pl db (witN ls i))) ∨ ∃ n v,H.n ≤ n ∧ n < H.n + T.length ∧ x = .sl n v 32 (pl db (witN ls i))) → R (.tup [x,.p (i64 (chkE ls.length [i] : Nat))]) (app H T)) :
    ACall Tryd.prog G 17 [.p (.sl false 1 (pl bs ls)),.p (i64 i)] H R := by
  by_cases hc : chkE ls.length [i] = 0
  · have hinc := inc_chkE hc
    obtain ⟨_,hr⟩ := inc_pw hinc
    have hr := hr i (by simp)
    obtain ⟨w,rfl⟩ : ∃ w : Nat,i = w := ⟨i.toNat,by omega⟩
    refine witR_spec ls.length ls w (Nat.le_refl _) (by omega) hl hb H R fun a v T ha => ?_
    have hw : witN ls (w : Int) = witF ls.length ls w := by
      rw [witN,if_pos hc,Int.toNat_natCast,pathD_eq (by omega)]
    have ha' := (List.getElem?_eq_some_iff.1 ha).1
    have := h (.sl (H.n + a) v 32 (pl db (witF ls.length ls w))) T (.inr ⟨H.n + a,v,by omega,by omega,by rw [hw]⟩)
    rw [hc] at this
    exact this
  · have hw : witN ls i = [] := by rw [witN,if_neg hc]
    refine WitnessR_err ls i (by omega) hc H R ?_
    have := h (.p (.sl false 32 (pl db (witN ls i)))) [] (.inl rfl)
    rw [hw] at this
    exact this

set_option maxHeartbeats 16000000 in
theorem Matches_spec (hG : GS G) (hT : GT G) (q : List By) (hq : q.length ≤ 9223372036854775807) (hb : ∀ i,i < q.length → (nth q i).length ≤ 9223372036854775807) (m : BitVec 64)
    (ix : List Int) (hil : ix.length ≤ 9223372036854775807) (him : ∀ x ∈ ix,-9223372036854775808 ≤ x ∧ x ≤ 9223372036854775807) (z : Int) (hz1 : -9223372036854775808 ≤ z) (hz2 : z ≤ 9223372036854775807) (H : Hp) (R : AV → Hp → Prop) (h : R (.p (bo true)) H) :
    ACall Tryd.prog G 3 [.p (.agg [.sl false 1 (pl bs q),w64 m]),.p (.sl false 1 (pl i64 ix)),.p (i64 z)] H R := by
  have hl := madeL_len q 40
  have hs := madeL_short q 40 (by omega)
  refine ACall.of_run (raw := []) Tryd.func3 rfl Tryd.ntmps3 (by simp) fun hbel => ?_
  (repeat refine .z rfl ?_); refine .text ?_; simp (disch:=first|exact dsc|fail) only [go_sem,seval]
  (repeat refine .z rfl ?_); refine .text ?_; simp (disch:=first|exact dsc|fail) only [go_sem,seval]
  refine CallK.of (fun R h => sanity_spec hG hT _ R h) ?_; simp (disch:=first|exact dsc|fail) only [go_sem,seval]
  (repeat refine .z rfl ?_); refine .text ?_; simp (disch:=first|exact dsc|fail) only [go_sem,seval]
  refine CallK.of (fun R h => made_spec q hq hb m _ R h) ?_; simp (disch:=first|exact dsc|fail) only [go_sem,seval]
  generalize madeL q 40 = ls at *
  obtain ⟨hp,hr⟩ := idxL_inc m ls.length
  have hil2 := idxL_len m ls.length
  have hinc : Inc ls.length (idxL m ls.length) := pw_inc hp hr
  generalize idxL m ls.length = idx at *
  have e0 : rootE ls.length = 0 := rootE_eq hl.2 (by omega)
  have lr : (rootD ls).length = 32 := rootD_len hl.2
  have hv : rootV ls = rootD ls := rootV_eq hl.2 (by omega)
  (repeat refine .z rfl ?_); refine .text ?_; simp (disch:=first|exact dsc|fail) only [go_sem,seval]
  refine CallK.of (fun R h => Root_spec hG ls (by omega) hs _ R h) ?_; simp (disch:=first|exact dsc|fail) only [go_sem,seval,e0,hv,lr]
  (repeat refine .z rfl ?_); refine .text ?_; simp (disch:=first|exact dsc|fail) only [go_sem,seval]
  refine CallK.of (fun R h => RootR_spec ls (by omega) hs _ R h) ?_; simp (disch:=first|exact dsc|fail) only [go_sem,seval,e0,hv,lr]
  (repeat refine .z rfl ?_); refine .text ?_; simp (disch:=first|exact dsc|fail) only [go_sem,seval]
  refine CallK.of (fun R h => Open_spec hG ls idx (by omega) (by omega) hs _ R h) ?_; simp (disch:=first|exact dsc|fail) only [go_sem,seval]
  (repeat refine .z rfl ?_); refine .text ?_; simp (disch:=first|exact dsc|fail) only [go_sem,seval]
  refine CallK.of (fun R h => OpenR_spec ls idx (by omega) (by omega) hs _ R h) ?_; simp (disch:=first|exact dsc|fail) only [go_sem,seval]
  (repeat refine .z rfl ?_); refine .text ?_; simp (disch:=first|exact dsc|fail) only [go_sem,seval]
  (repeat refine .z rfl ?_); first | refine .cutF0 [2,7,8,10,11,12,13,14,15,16,17] [] (fun ihE => ?_) (fun env T E => ?_) | refine .cutF [2,7,8,10,11,12,13,14,15,16,17] [] [] (fun ihE => ?_) (fun env T E => ?_)
  rotate_left 1
  simp (disch:=first|exact dsc|fail) only [go_sem,seval] at E
  rotate_left 1
  · by_cases c : ix.length ≤ 100
    · have d : decide ((ix.length : Int) ≤ 100) = true := by simp only [decide_eq_true_eq]; omega
      have ho := openN_mem (ls := ls) (idx := ix) hl.2
      have hol := openN_len (ls := ls) (idx := ix) hl.2
      (repeat refine .z rfl ?_); refine .ifT (by simp (disch:=first|exact dsc|fail) only [go_sem,seval,d]) ?_
      (repeat refine .z rfl ?_); refine .text ?_; simp (disch:=first|exact dsc|fail) only [go_sem,seval]
      refine CallK.of (fun R h => Open_spec hG ls ix (by omega) (by omega) hs _ R h) ?_; simp (disch:=first|exact dsc|fail) only [go_sem,seval]
      (repeat refine .z rfl ?_); refine .text ?_; simp (disch:=first|exact dsc|fail) only [go_sem,seval]
      refine CallK.of (fun R h => OpenR_spec ls ix (by omega) (by omega) hs _ R h) ?_; simp (disch:=first|exact dsc|fail) only [go_sem,seval]
      (repeat refine .z rfl ?_); refine .text ?_; simp (disch:=first|exact dsc|fail) only [go_sem,seval]
      refine CallK.of (fun R h => SameR_spec _ _ ho ho (by omega) (by omega) _ R h) ?_; simp (disch:=first|exact dsc|fail) only [go_sem,seval,beq_self_eq_true,bne_self_eq_false]
      (repeat refine .z rfl ?_); refine .ifF (by simp (disch:=first|exact dsc|fail) only [go_sem,seval]) ?_
      first | (refine ihE _ _ ?_ ?_) | (refine .z rfl ?_; refine ihE _ _ ?_ ?_) | (refine .z rfl ?_; refine .z rfl ?_; refine ihE _ _ ?_ ?_) | (refine .z rfl ?_; refine .z rfl ?_; refine .z rfl ?_; refine ihE _ _ ?_ ?_)
      · simp (disch:=first|exact dsc|fail) only [go_sem,seval] <;> (repeat' (first | rfl | refine And.intro ?_ ?_))
      · exact .mk [.cells _,.cells _] rfl
    · have d : decide ((ix.length : Int) ≤ 100) = false := by simp only [decide_eq_false_iff_not]; omega
      (repeat refine .z rfl ?_); refine .ifF (by simp (disch:=first|exact dsc|fail) only [go_sem,seval,d]) ?_
      first | (refine ihE _ _ ?_ ?_) | (refine .z rfl ?_; refine ihE _ _ ?_ ?_) | (refine .z rfl ?_; refine .z rfl ?_; refine ihE _ _ ?_ ?_) | (refine .z rfl ?_; refine .z rfl ?_; refine .z rfl ?_; refine ihE _ _ ?_ ?_)
      · simp (disch:=first|exact dsc|fail) only [go_sem,seval] <;> (repeat' (first | rfl | refine And.intro ?_ ?_))
      · first | exact .mk _ rfl | exact .mk [] rfl | (apply Later.mk; simp (disch:=first|exact dsc|fail) only [go_sem,seval,app_push]; exact rfl) | (apply Later.mk; simp (disch:=first|exact dsc|fail) only [go_sem,seval,app_push,app_app,List.append_assoc] <;> (try rfl))
  · (repeat refine .z rfl ?_); refine .text ?_; simp (disch:=first|exact dsc|fail) only [go_sem,seval,E]
    refine CallK.of (fun R h => Witness_spec hG ls z (by omega) hs _ R h) ?_; simp (disch:=first|exact dsc|fail) only [go_sem,seval,E]
    (repeat refine .z rfl ?_); refine .text ?_; simp (disch:=first|exact dsc|fail) only [go_sem,seval,E]
    refine CallK.ex (WitnessR_any ls z hz1 hz2 (by omega) hl.2 hs _ (fun r H' => ∃ (x : AV) (S : List AB),(x = .p (.sl false 32 (pl db (witN ls z))) ∨ ∃ n v,(app (((((H.new (AB.cells [.p (.sl false 1 (pl bs q)),.p (w64 m)])).new (AB.cells (cl b8 (rootD ls)))).new (AB.cells (cl b8 (rootD ls)))).new (AB.cells [.p (.sl false 32 (pl db (openN ls idx)))])).new (AB.cells [.p (.sl false 32 (pl db (openN ls idx)))])) T).n ≤ n ∧ n < (app (((((H.new (AB.cells [.p (.sl false 1 (pl bs q)),.p (w64 m)])).new (AB.cells (cl b8 (rootD ls)))).new (AB.cells (cl b8 (rootD ls)))).new (AB.cells [.p (.sl false 32 (pl db (openN ls idx)))])).new (AB.cells [.p (.sl false 32 (pl db (openN ls idx)))])) T).n + S.length ∧ x = .sl n v 32 (pl db (witN ls z))) ∧ r = .tup [x,.p (i64 (chkE ls.length [z] : Nat))] ∧ H' = app (app (((((H.new (AB.cells [.p (.sl false 1 (pl bs q)),.p (w64 m)])).new (AB.cells (cl b8 (rootD ls)))).new (AB.cells (cl b8 (rootD ls)))).new (AB.cells [.p (.sl false 32 (pl db (openN ls idx)))])).new (AB.cells [.p (.sl false 32 (pl db (openN ls idx)))])) T) S) (fun x S hx => ⟨x,S,hx,rfl,rfl⟩)) ?_
    rintro r H' ⟨x,S,hx,rfl,rfl⟩
    simp (disch:=first|exact dsc|fail) only [go_sem,seval,E]
    (repeat refine .z rfl ?_); refine .weak 24 (x := x) (y := .p (.sl false 32 (pl db (witN ls z)))) (by simp (disch:=first|exact dsc|fail) only [go_sem,seval,E] <;> rfl) (by rcases hx with rfl | ⟨n,v,_,_,rfl⟩ <;> rfl) ?_
    rw [app_app]
    generalize T ++ S = T2
    (repeat refine .z rfl ?_); refine .text ?_; simp (disch:=first|exact dsc|fail) only [go_sem,seval,E]
    (repeat refine .z rfl ?_); refine .weak 26 (by simp (disch:=first|exact dsc|fail) only [go_sem,seval]; rfl) (by simp (disch:=first|exact dsc|fail) only [go_sem,seval,AV.weak,PV.weak]; rfl) ?_; (try simp (disch:=first|exact dsc|fail) only [go_sem,seval])
    (repeat refine .z rfl ?_); refine .weak 27 (by simp (disch:=first|exact dsc|fail) only [go_sem,seval]; rfl) (by simp (disch:=first|exact dsc|fail) only [go_sem,seval,AV.weak,PV.weak]; rfl) ?_; (try simp (disch:=first|exact dsc|fail) only [go_sem,seval])
    (repeat refine .z rfl ?_); refine .text ?_; simp (disch:=first|exact dsc|fail) only [go_sem,seval,E]
    have hz : peaks (ls.take 0) = [] := rfl
    have hz3 : pl db [] = [] := rfl
    (repeat refine .z rfl ?_); refine .loopE [7,8,10,11,12,13,14,15,16,17,22,23,24,25] (fun i => [(26,.p (.sl false 32 (pl db (peaks (ls.take i))))),(27,.p (.sl false 32 (pl db (peaks (ls.take i))))),(28,.p (i64 i))]) (fun i => []) (fun i => True) (0) (ls.length) (by omega) ?_ (by first | rfl | (simp (disch:=first|exact dsc|fail) only [go_sem,seval,E,hz,hz3] <;> rfl)) ?_ ?_ ?_
    · simp (disch:=first|exact dsc|fail) only [go_sem,seval,E,hz,hz3] <;> (repeat' (first | rfl | refine And.intro ?_ ?_))
    · exact trivial
    intro env K hQ; simp (disch:=first|exact dsc|fail) only [go_sem,seval,E,hz,hz3] at K
    rotate_left 1
    intro i env hi0 hi K hQ ihK; simp (disch:=first|exact dsc|fail) only [go_sem,seval,E,hz,hz3] at K
    rotate_left 1
    · have hO := openN_mem (ls := ls) (idx := idx) hl.2
      have hOl := openN_len (ls := ls) (idx := idx) hl.2
      have hPm : ∀ d ∈ peaks ls,d.length = 32 := peaks_mem _ _ (Nat.le_refl _)
      have hPl : (peaks ls).length ≤ 100000 := by
        rw [peaks_len _ _ (Nat.le_refl _) (by omega),← pcF_eq 7 _ (by omega)]
        exact Nat.le_trans (pcF_le ⟨ls.length,by omega⟩) (by omega)
      obtain ⟨hWl,hWm⟩ : (witN ls z).length ≤ 100000 ∧ ∀ d ∈ witN ls z,d.length = 32 := by
        by_cases hc : chkE ls.length [z] = 0
        · obtain ⟨_,hr⟩ := inc_pw (inc_chkE hc)
          have hr := hr z (by simp)
          obtain ⟨w,rfl⟩ : ∃ w : Nat,z = w := ⟨z.toNat,by omega⟩
          have hp := open_one (ls := ls) (i := w) (by omega) (by omega)
          have hol := openN_len (ls := ls) (idx := [(w : Int)]) hl.2
          have := hp.length_eq
          exact ⟨by omega,fun d hd => openN_mem hl.2 d (hp.mem_iff.2 hd)⟩
        · rw [witN,if_neg hc]; simp
      have hbl := bagD_len hPm
      generalize peaks ls = P at *
      generalize openN ls idx = O at *
      generalize witN ls z = W at *
      generalize rootD ls = r at *
      (repeat refine .z rfl ?_); refine .text ?_; simp (disch:=first|exact dsc|fail) only [go_sem,seval,E,K]
      (repeat refine .z rfl ?_); refine .ifF (by simp (disch:=first|exact dsc|fail) only [go_sem,seval]) ?_
      have q4 : ∀ x : List By,decide (x = x) = true := fun x => decide_eq_true rfl
      (repeat refine .z rfl ?_); refine .text ?_; simp (disch:=first|exact dsc|fail) only [go_sem,seval,E,K,lr,beq_self_eq_true]
      refine CallK.of (fun R h => SameR_spec O O hO hO (by omega) (by omega) _ R h) ?_; simp (disch:=first|exact dsc|fail) only [go_sem,seval,E,K,lr,beq_self_eq_true]
      refine CallK.of (fun R h => SameR_spec W W hWm hWm (by omega) (by omega) _ R h) ?_; simp (disch:=first|exact dsc|fail) only [go_sem,seval,E,K,lr,beq_self_eq_true]
      refine CallK.of (fun R h => SameR_spec P P hPm hPm (by omega) (by omega) _ R h) ?_; simp (disch:=first|exact dsc|fail) only [go_sem,seval,E,K,lr,beq_self_eq_true]
      refine CallK.of (fun R h => Bag_spec hG P hPl hPm _ R h) ?_; simp (disch:=first|exact dsc|fail) only [go_sem,seval,E,K,lr,beq_self_eq_true]
      refine CallK.of (fun R h => BagR_spec P hPl hPm _ R h) ?_; simp (disch:=first|exact dsc|fail) only [go_sem,seval,E,K,lr,hbl,beq_self_eq_true]
      (repeat refine .z rfl ?_); refine .rt Tryd.func3 (by rw [Tryd.results3]) (hx := by simp (disch:=first|exact dsc|fail) only [go_sem,seval,E,K,beq_self_eq_true]; rfl) (hR := ?_); simp (disch:=first|exact dsc|fail) only [go_sem,seval,E,K,beq_self_eq_true]
      exact h
    · have hpm : ∀ d ∈ peaks (ls.take i),d.length = 32 := peaks_mem _ _ (Nat.le_refl _)
      have hti : (ls.take i).length = i := by rw [List.length_take]; omega
      have hpl : (peaks (ls.take i)).length = pcF 7 i := by rw [peaks_len _ _ (Nat.le_refl _) (by omega),hti,pcF_eq 7 _ (by omega)]
      have ho : ones 64 i ≤ (peaks (ls.take i)).length := by rw [hpl]; exact ones_pc ⟨i,by omega⟩
      have hpc7 : pcF 7 i ≤ 7 := pcF_le ⟨i,by omega⟩
      have htk : ls.take (i + 1) = ls.take i ++ [nth ls i] := by
        rw [List.take_add_one,List.getElem?_eq_getElem hi]
        have : nth ls i = ls[i] := by simp [nth,hi]
        rw [this]; rfl
      have hpush : pushD (peaks (ls.take i)) i (nth ls i) = peaks (ls.take (i + 1)) := by
        have := peaks_push i (ls.take i) (nth ls i) (by omega) (by omega)
        rw [hti] at this
        rw [htk]
        exact this.symm
      have hsx := hs i hi
      have hcb : ∀ x : By,bs x = .sl false 1 (pl b8 x) := fun _ => rfl
      generalize hx2 : nth ls i = y at *
      generalize peaks (ls.take (i + 1)) = P1 at *
      generalize peaks (ls.take i) = P0 at *
      (repeat refine .z rfl ?_); refine .text ?_; simp (disch:=first|exact dsc|fail) only [go_sem,seval,E,K]
      (repeat refine .z rfl ?_); refine .ifT (by simp (disch:=first|exact dsc|fail) only [go_sem,seval]) ?_
      (repeat refine .z rfl ?_); refine .text ?_; simp (disch:=first|exact dsc|fail) only [go_sem,seval,E,K,hx2,hcb]
      refine CallK.of (fun R h => Push_spec hG hT P0 (by omega) hpm i (by omega) ho y hsx _ R h) ?_; simp (disch:=first|exact dsc|fail) only [go_sem,seval,E,K,hpush,hx2,hcb]
      (repeat refine .z rfl ?_); refine .text ?_; simp (disch:=first|exact dsc|fail) only [go_sem,seval,E,K,hx2,hcb]
      refine CallK.of (fun R h => PushR_spec P0 (by omega) hpm i (by omega) ho y hsx _ R h) ?_; simp (disch:=first|exact dsc|fail) only [go_sem,seval,E,K,hpush,hx2,hcb]
      (repeat refine .z rfl ?_); refine .text ?_; simp (disch:=first|exact dsc|fail) only [go_sem,seval,E,K]
      first | (refine ihK _ _ ?_ trivial ?_) | (refine .z rfl ?_; refine ihK _ _ ?_ trivial ?_) | (refine .z rfl ?_; refine .z rfl ?_; refine ihK _ _ ?_ trivial ?_) | (refine .z rfl ?_; refine .z rfl ?_; refine .z rfl ?_; refine ihK _ _ ?_ trivial ?_)
      · simp (disch:=first|exact dsc|fail) only [go_sem,seval,E,K] <;> (repeat' (first | rfl | refine And.intro ?_ ?_))
      · first | rfl | (simp (disch:=first|exact dsc|fail) only [go_sem,seval,E,K] <;> (try rfl))
end walks
end Go.Proofs.YthonhnpiglafkaaDoor

/-
  What the laws' rows give their walks: the tables,a world for the witness,what the arguments read as.
-/
namespace Go.Proofs.YthonhnpiglafkaaDoor
open Go Go.AL Go.ChangeShapes Go.WideShapes Go.ChangeAt Go.RowKit

theorem own : ownKnob Tryd.prog.godebug = none := by kernel_rfl
theorem laidOut : laidOutB Tryd.prog = true := by kernel_rfl
def nI : String := Rows.merklePartsRow.named[0]!
def nC : String := Rows.merklePartsRow.named[1]!
def nS : String := Rows.merklePartsRow.named[2]!
def nT : String := Rows.merklePartsRow.named[3]!
theorem gConst : Tryd.prog.globalNamed nC = some 3 := by kernel_rfl
theorem gInit : Tryd.prog.globalNamed nI = some 0 := by kernel_rfl
theorem gTab : Tryd.prog.globalNamed nT = some 2 := by kernel_rfl
theorem gConstT : (Tryd.prog.globals[3]?).map (·.type) = some 128 := by kernel_rfl
theorem gInitT : (Tryd.prog.globals[0]?).map (·.type) = some 115 := by kernel_rfl
theorem gTabT : (Tryd.prog.globals[2]?).map (·.type) = some 125 := by kernel_rfl

def kz : List Int := ks.map fun x => (x.toNat : Int)
def iz : List Int := inits.map fun x => (x.toNat : Int)
def tz : List Int := dbt.map fun x => (x.toNat : Int)
def sz32 : List Int := [0,1,28,2,29,14,24,3,30,22,20,15,25,17,4,8,31,27,13,23,21,19,16,7,26,12,18,6,11,5,10,9]

theorem met_tail {P : Program} {x : String × DataW Unit} {l : List (String × DataW Unit)} {W : World} (h : laidMet P (x :: l) W) : laidMet P l W := by
  obtain ⟨ps,⟨g',t',cs,fuel,p,q,_,_,_,_,hq,hps⟩,hn,ha⟩ := h
  subst hps
  exact ⟨q,hq,(List.nodup_append.1 hn).2.1,fun b off hb => ha b off (List.mem_append_right _ hb)⟩
theorem tables {W : World} (h : laidMetH Tryd.prog Rows.merklePartsRow.laid W) : Lib.TabIs Tryd.prog W nC .u32 kz ∧ Lib.TabIs Tryd.prog W nI .u32 iz ∧ Lib.TabIs Tryd.prog W nT .u8 tz := by
  have h : laidMet Tryd.prog [(nS,Lib.tabData .u8 sz32),(nT,Lib.tabData .u8 tz),(nC,Lib.tabData .u32 kz),(nI,Lib.tabData .u32 iz)] W := h
  have h2 := met_tail h
  have h3 := met_tail h2
  have h4 := met_tail h3
  exact ⟨Lib.tabIs_of_head gConst gConstT Tryd.underlying128 Tryd.underlying110 cells110 cells128 h3,
    Lib.tabIs_of_head gInit gInitT Tryd.underlying115 Tryd.underlying110 cells110 cells115 h4,
    Lib.tabIs_of_head gTab gTabT Tryd.underlying125 Tryd.underlying5 cells5 cells125 h2⟩

theorem glob_bytes {P : Program} {W : World} {name : String} {g : Nat} {l : List (BitVec 8)} {zs : List Int} (h : Lib.TabIs P W name .u8 zs) (hg : P.globalNamed name = some g) (hz : zs = l.map fun x => (x.toNat : Int)) (hl : 0 < l.length) :
    RelV σ0 H0 W (.ip l.length [.agg (pl b8 l)] 0 0) (.pointer (some ⟨g,0,none⟩)) := by
  subst hz
  have hcell : ∀ i,i < l.length → W.cell? ⟨g,i,none⟩ = some (.int .u8 ((l[i]?).getD 0).toNat) := fun i hi => by
    have := h.cell hg i (by simpa using hi)
    rw [this]
    simp [List.getD,hi]
  have := RelV.ip (σ := σ0) (H := H0) (w := W) (sz := l.length) (xs := [.agg (pl b8 l)]) (i := 0) (sub := 0) (g := g) (off := 0) (cap := 1)
    (.sl false _ _ _ 0 1 (fun k => .int .u8 ((l[k]?).getD 0).toNat) (by simp) ⟨by simp,by unfold maxLen; omega⟩ (fun x hx => by simp only [List.mem_singleton] at hx; subst hx; exact pl_len)
      (fun k hk => by
        simp only [List.length_singleton,Nat.one_mul] at hk
        rw [Nat.zero_add]
        exact ⟨stable0 _ _,hcell k hk,rfl⟩)
      (fun k y hy => by
        have : flat [PV.agg (pl b8 l)] = pl b8 l := by simp [flat,PV.cells]
        rw [this] at hy
        simp only [pl,List.getElem?_map,Option.map_eq_some_iff] at hy
        obtain ⟨x,hx,rfl⟩ := hy
        rw [hx]
        exact .s _ rfl)) (by simp) hl
  simpa using this

def GG : Globs := fun g => if g = 0 then some (8,[.agg (pl w32 inits)]) else if g = 3 then some (64,[.agg (pl w32 ks)]) else if g = 2 then some (64,[.agg (pl b8 dbt)]) else none
theorem GG_ok : GS GG := ⟨rfl,rfl⟩
theorem GG_t : GT GG := rfl
theorem rel_start {W : World} (h : laidMetH Tryd.prog Rows.merklePartsRow.laid W) : Rel GG σ0 H0 W := rel0 fun g sz xs hg => by
  obtain ⟨h1,h0,h2⟩ := tables h
  unfold GG at hg
  split at hg
  · rename_i e; subst e; cases hg
    exact glob_words (l := inits) h0 gInit rfl (by decide)
  · split at hg
    · rename_i e; subst e; cases hg
      exact glob_words (l := ks) h1 gConst rfl (by decide)
    · split at hg
      · rename_i e; subst e; cases hg
        exact glob_bytes (l := dbt) h2 gTab rfl (by decide)
      · cases hg

noncomputable def laidWorld (os : Os) : World :=
  let w := World.holding Tryd.prog os ⟨#[],#[],[]⟩
  { w with heap := (((w.heap.modify 0 fun
      | .cells _ t frozen => .cells (iz.map fun z => Value.int .u32 z).toArray t frozen
      | o => o).modify 3 fun
      | .cells _ t frozen => .cells (kz.map fun z => Value.int .u32 z).toArray t frozen
      | o => o).modify 2 fun
      | .cells _ t frozen => .cells (tz.map fun z => Value.int .u8 z).toArray t frozen
      | o => o).modify 1 fun
      | .cells _ t frozen => .cells (sz32.map fun z => Value.int .u8 z).toArray t frozen
      | o => o }

set_option maxRecDepth 100000 in
theorem laid_met (os : Os) (args : Array Value) : laidMet Tryd.prog Rows.merklePartsRow.laid ((laidWorld os).forCall (fun _ _ => 0) ⟨#[],args,[]⟩).memory :=
  laidMet_of_run' 8 (by kernel_rfl) (by kernel_rfl)

set_option maxRecDepth 100000
section read
variable {k : Nat} {y : List PV}
theorem rd_bytes (h : Reads Tryd.prog (k + 2) 44 y) : ∃ l : By,l.length ≤ 9223372036854775807 ∧ y = [bs l] := by
  obtain ⟨l,h1,rfl,-⟩ := Reads.sl b8 (fun _ => True) Tryd.underlying44 cells5 aggT5 h fun y hy => by
    obtain ⟨b,rfl⟩ := Reads.u8 Tryd.underlying5 hy
    exact ⟨b,rfl,trivial⟩
  exact ⟨l,h1,rfl⟩
theorem rd_rows (h : Reads Tryd.prog (k + 3) 22 y) : ∃ ls : List By,ls.length ≤ 9223372036854775807 ∧ y = [.sl false 1 (pl bs ls)] ∧ ∀ l ∈ ls,l.length ≤ 9223372036854775807 :=
  Reads.sl bs (fun l => l.length ≤ 9223372036854775807) Tryd.underlying22 cells44 aggT44 h fun y hy => by
    obtain ⟨l,h1,rfl⟩ := rd_bytes hy
    exact ⟨l,rfl,h1⟩
theorem rd_ints (h : Reads Tryd.prog (k + 2) 26 y) : ∃ l : List Int,l.length ≤ 9223372036854775807 ∧ y = [.sl false 1 (pl i64 l)] ∧ ∀ x ∈ l,-9223372036854775808 ≤ x ∧ x ≤ 9223372036854775807 :=
  Reads.sl i64 (fun x => -9223372036854775808 ≤ x ∧ x ≤ 9223372036854775807) Tryd.underlying26 cells3 aggT3 h fun y hy => by
    obtain ⟨z,h1,h2,rfl⟩ := Reads.i64 Tryd.underlying3 hy
    exact ⟨z,rfl,h1,h2⟩
end read

section rel
variable {W : World} {v : Value} {H : Type} {enc : TypeId × Value → H} {d : DataW H} {ps : List MemPlace} {base : Nat}
theorem rel_query (hval : Value.okWide Tryd.prog W .any base 25 v) (h : DataW.Trod enc Tryd.prog W 0 (fun _ => true) true 25 v d ps) :
    ∃ (q : List By) (m : BitVec 64),q.length ≤ 9223372036854775807 ∧ (∀ i,i < q.length → (nth q i).length ≤ 9223372036854775807) ∧ RelV σ0 H0 W (.p (.agg [.sl false 1 (pl bs q),w64 m])) v := by
  obtain ⟨xs,hx,e⟩ := rel_read 8 (by kernel_rfl) hval h
  obtain ⟨y1,z1,rfl,-,r1,y2,z2,rfl,-,r2,rfl⟩ := Reads.struct (k := 7) Tryd.underlying25 hx
  obtain ⟨q,h1,rfl,h2⟩ := rd_rows r1
  obtain ⟨m,rfl⟩ := Reads.u64 Tryd.underlying23 r2
  rw [aggT25] at e
  exact ⟨q,m,h1,fun i hi => h2 _ (nth_mem hi),e⟩
theorem rel_int (hval : Value.okWide Tryd.prog W .any base 3 v) (h : DataW.Trod enc Tryd.prog W 0 (fun _ => true) true 3 v d ps) : ∃ z : Int,-9223372036854775808 ≤ z ∧ z ≤ 9223372036854775807 ∧ RelV σ0 H0 W (.p (i64 z)) v := by
  obtain ⟨xs,hx,e⟩ := rel_read 1 (by kernel_rfl) hval h
  obtain ⟨z,h1,h2,rfl⟩ := Reads.i64 (k := 0) Tryd.underlying3 hx
  rw [aggT3] at e
  exact ⟨z,h1,h2,e⟩
theorem rel_ints (hval : Value.okWide Tryd.prog W .any base 26 v) (h : DataW.Trod enc Tryd.prog W 0 (fun _ => true) true 26 v d ps) : ∃ l : List Int,l.length ≤ 9223372036854775807 ∧ (∀ x ∈ l,-9223372036854775808 ≤ x ∧ x ≤ 9223372036854775807) ∧ RelV σ0 H0 W (.p (.sl false 1 (pl i64 l))) v := by
  obtain ⟨xs,hx,e⟩ := rel_read 2 (by kernel_rfl) hval h
  obtain ⟨l,h1,rfl,h2⟩ := rd_ints (k := 0) hx
  rw [aggT26] at e
  exact ⟨l,h1,h2,e⟩
end rel
end Go.Proofs.YthonhnpiglafkaaDoor
