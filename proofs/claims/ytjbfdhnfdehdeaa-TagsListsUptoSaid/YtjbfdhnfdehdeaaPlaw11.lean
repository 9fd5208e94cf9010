import Derived.Test.YtjbfdhnfdehdeaaPtags8
import Derived.Test.YtjbfdhnfdehdeaaPsame11
import Derived.Test.YtjbfdhnfdehdeaaPfrz
namespace Go.Proofs.Ytjbfdhnfdehdeaa
open Go Go.Proofs.Ytjbfdhnfdehdeaa.V
set_option maxRecDepth 20000
attribute [local irreducible] CallS AOK AOKn ALoop Side Ref.ok
def fewB (D : List (List UInt8)) : Bool := (D.all fun d => decide (d.length ≤ 4096)) && decide (D.length ≤ 60)
theorem few_ok (D : List (List UInt8)) (hD : D.length ≤ 4611686018) (hd : ∀ d, d ∈ D → d.length ≤ 4611686018) : AOKn Try.prog F.joistlaw11_few [.sl 1 (dat D) false] fun y => y = .bool (fewB D) := by
  have hDn := dat_length D
  refine AOKn.by_steps mixed fc_joistlaw11_few_ok (by simp [fc_joistlaw11_few]) ?_
  have hex : ∀ i, (D.take i).all (fun d => decide (d.length ≤ 4096)) = true ∨ (D.all fun d => decide (d.length ≤ 4096)) = false := fun i => by
    cases h : D.all fun d => decide (d.length ≤ 4096)
    · exact .inr rfl
    · left
      rw [List.all_eq_true] at h ⊢
      exact fun x hx => h x (List.mem_of_mem_take hx)
  skip
  all_goals (conv => whnf)
  all_goals (try dsimp only)
  refine loop_at (α := Nat) (fun i => [(3, .int .i64 i)]) (fun _ => []) (fun i => i ≤ D.length ∧ ∀ d, d ∈ D.take i → d.length ≤ 4096) (fun i => D.length - i) 0 ⟨Nat.zero_le _, by simp⟩ rfl rfl ?_
  rintro i ⟨hi, hs⟩
  by_cases hlt : i < D.length
  · obtain ⟨d, hdd, hdd'⟩ := getN hlt
    have hdl := bs_length d
    have hdb := hd d (List.mem_of_getElem? hdd')
    by_cases hsm : d.length ≤ 4096
    · repeat' (first
        | ((with_reducible refine Side.intro ?_) <;> (first
        | omega
        ))
        | ((conv => whnf) <;> (first
        | (with_reducible refine and_same ?_)
        | ((with_reducible apply Br.yes) ; (focus omega))
        | ((with_reducible apply Br.no) ; (focus omega))
        | ((with_reducible apply nthR_dat) ; (focus assumption))
        | (with_reducible refine ia_sl ?_ ?_)
        | (with_reducible refine lenR_sl ?_)
        ))
        )
      all_goals (conv => whnf)
      all_goals (try dsimp only)
      refine ⟨i + 1, rfl, rfl, ⟨by omega, fun e he => ?_⟩, by omega⟩
      rw [List.take_add_one, hdd'] at he
      rcases List.mem_append.1 he with q | q
      · exact hs e q
      · simp only [Option.toList_some, List.mem_singleton] at q
        rw [q]; exact hsm
    · have e : fewB D = false := by
        rw [fewB, List.all_eq_false.2 ⟨d, List.mem_of_getElem? hdd', by simpa using hsm⟩]; rfl
      rw [e]
      repeat' (first
        | ((with_reducible refine Side.intro ?_) <;> (first
        | omega
        | (simp only [List.append_nil, List.nil_append, List.map_nil]; first | exact List.nodup_nil | exact nodup_bid1 _ | exact nodup_bid2 (by assumption))
        | ((first | refine fresh_tup ?_ | skip); (repeat (first |  exact FreshA.sl _ _ FreshA_bs | exact FreshA.sl _ _ FreshA_is | exact FreshA.nils | exact FreshA.nilp | exact FreshA.int _ _ | exact FreshA.bool _ | exact FreshA.str _ | exact fresh_nil | refine fresh_cons ?_ ?_ | with_reducible refine fresh_aggR ?_ | with_reducible refine fresh_agg ?_ | with_reducible exact fresh_nilA | with_reducible refine fresh_consA ?_ ?_)); done)
        ))
        | ((conv => whnf) <;> (first
        | (with_reducible refine and_same ?_)
        | (with_reducible refine and_side ?_ ?_)
        | ((with_reducible apply Br.yes) ; (focus omega))
        | ((with_reducible apply nthR_dat) ; (focus assumption))
        | (with_reducible refine ia_sl ?_ ?_)
        | (with_reducible refine NOut.lit ?_)
        | (with_reducible refine lenR_sl ?_)
        ))
        )
      all_goals (conv => whnf)
      all_goals (try dsimp only)
      exact ret_bool rfl
  · have hil : i = D.length := by omega
    subst hil
    rw [List.take_length] at hs
    have e : fewB D = decide (D.length ≤ 60) := by
      rw [fewB, List.all_eq_true.2 fun d hd => decide_eq_true (hs d hd)]; rfl
    rw [e]
    by_cases h60 : D.length ≤ 60
    · rw [decide_eq_true h60]
      repeat' (first
        | ((with_reducible refine Side.intro ?_) <;> (first
        | (simp only [List.append_nil, List.nil_append, List.map_nil]; first | exact List.nodup_nil | exact nodup_bid1 _ | exact nodup_bid2 (by assumption))
        | ((first | refine fresh_tup ?_ | skip); (repeat (first |  exact FreshA.sl _ _ FreshA_bs | exact FreshA.sl _ _ FreshA_is | exact FreshA.nils | exact FreshA.nilp | exact FreshA.int _ _ | exact FreshA.bool _ | exact FreshA.str _ | exact fresh_nil | refine fresh_cons ?_ ?_ | with_reducible refine fresh_aggR ?_ | with_reducible refine fresh_agg ?_ | with_reducible exact fresh_nilA | with_reducible refine fresh_consA ?_ ?_)); done)
        ))
        | ((conv => whnf) <;> (first
        | (with_reducible refine and_same ?_)
        | (with_reducible refine and_side ?_ ?_)
        | ((with_reducible apply Br.yes) ; (focus omega))
        | ((with_reducible apply Br.no) ; (focus omega))
        | (with_reducible refine NOut.lit ?_)
        | (with_reducible refine lenR_sl ?_)
        ))
        )
      all_goals (conv => whnf)
      all_goals (try dsimp only)
      all_goals exact ret_bool rfl
    · rw [decide_eq_false h60]
      repeat' (first
        | ((with_reducible refine Side.intro ?_) <;> (first
        | (simp only [List.append_nil, List.nil_append, List.map_nil]; first | exact List.nodup_nil | exact nodup_bid1 _ | exact nodup_bid2 (by assumption))
        | ((first | refine fresh_tup ?_ | skip); (repeat (first |  exact FreshA.sl _ _ FreshA_bs | exact FreshA.sl _ _ FreshA_is | exact FreshA.nils | exact FreshA.nilp | exact FreshA.int _ _ | exact FreshA.bool _ | exact FreshA.str _ | exact fresh_nil | refine fresh_cons ?_ ?_ | with_reducible refine fresh_aggR ?_ | with_reducible refine fresh_agg ?_ | with_reducible exact fresh_nilA | with_reducible refine fresh_consA ?_ ?_)); done)
        ))
        | ((conv => whnf) <;> (first
        | (with_reducible refine and_same ?_)
        | (with_reducible refine and_side ?_ ?_)
        | ((with_reducible apply Br.no) ; (focus omega))
        | (with_reducible refine NOut.lit ?_)
        | (with_reducible refine lenR_sl ?_)
        ))
        )
      all_goals (conv => whnf)
      all_goals (try dsimp only)
      all_goals exact ret_bool rfl
theorem few_call (D : List (List UInt8)) (hD : D.length ≤ 4611686018) (hd : ∀ d, d ∈ D → d.length ≤ 4611686018) {σ : AH} {x : AV} (hx : Looks σ x (.sl 1 (dat D) false)) {Q : AV → AH → Prop} (h : ∀ σ', Gr σ σ' none → Q (.bool (fewB D)) σ') : CallS Try.prog F.joistlaw11_few [x] σ Q :=
  call_one (few_ok D hD hd) (.cons hx .nil) rfl h

def U11 : List (Int × Int × Int) := [(4, 4, 0)]
def D11 : List (List UInt8) := [[7]]
def B11 : List UInt8 := twR 0 12 U11 D11
def H11 : List Int := twH 0 12 U11 D11
theorem r11 : rT 0 12 U11 D11 = true := by decide +kernel
theorem b11_len : B11.length = 96 := by decide +kernel
theorem h11_len : H11.length = 7 := by decide +kernel
theorem h11_0 : H11[0]? = some 1 := by decide +kernel
def W11 : List Int := [256, 9, 0, 256, 257, 7, 0, 257, 256, 0, 1, 256]
theorem w11 : ofR W11 = B11 := by decide +kernel
theorem ls129 : lsV 129 = 6 ∧ lsB 129 = true := by decide
theorem p11 : padL U11 D11 = [[7, 0, 0, 0, 0, 0, 0, 0, 0, 0, 0, 0, 0, 0, 0, 0]] := by decide +kernel
set_option maxHeartbeats 1000000 in
theorem small_ok : AOKn Try.prog F.joistlaw11_small [] fun y => y = .bool true := by
  refine AOKn.by_steps mixed fc_joistlaw11_small_ok (by simp [fc_joistlaw11_small]) ?_
  repeat' (first
    | ((with_reducible refine Side.intro ?_) <;> (first
    | omega
    | exact Nat.le_of_ble_eq_true rfl
    | exact rfl
    ))
    | ((conv => whnf) <;> (first
    | (with_reducible refine and_side ?_ ?_)
    ))
    )
  all_goals (conv => whnf)
  all_goals (try dsimp only)
  refine CallS.frz (bodied_of fc_tags_Write_ok) (id := 2) (b := { sz := 1, els := [[.rsl 1 0 0 1 none]], gen := 0, wr := true, pure := false }) (els' := [[.sl 1 [[.int .u8 7]] true]]) rfl rfl rfl rfl ?_
  refine TWrite_call 0 12 U11 D11 (by simp [U11]) (by simp [D11]) (by intro d hd; simp [D11] at hd; subst hd; simp) (by exact .same rfl) (by exact .same rfl) fun H1 y h hg1 hy hh hyn hhn hyh => ?_
  have eE : twE 0 12 U11 D11 = 0 := by decide +kernel
  have hr := Tg.read r11
  rw [eE]
  have hy1 : Own H1 1 y (bs B11) := hy
  have hh1 : Own H1 1 h (is H11) := hh
  have hr1 : trOk 0 12 B11 H11 = true ∧ trU 0 12 B11 H11 = U11 ∧ trD 0 12 B11 H11 = padL U11 D11 := hr
  clear hy hh hr
  have hbl := bs_length B11
  have b1l := b11_len
  have hhl := is_length H11
  have h1l := h11_len
  have h10 := h11_0
  repeat' (first
    | ((with_reducible refine Side.intro ?_) <;> (first
    | omega
    | exact Nat.le_of_ble_eq_true rfl
    | exact rfl
    ))
    | ((conv => whnf) <;> (first
    | (with_reducible refine and_side ?_ ?_)
    ))
    )
  all_goals (conv => whnf)
  all_goals (try dsimp only)
  refine Of_call W11 (by simp [W11]) (Looks.ownis (.mk' (sp := []) (by (first
        | ((repeat (first
        | exact get_new
        )); done)
        )) rfl rfl)) fun H2 w hg2 hw hwn => ?_
  rw [w11] at hw
  have g2 : Gr H1 H2 none := Gr.trans (by (repeat (first
        | exact Gr.refl _ _
        | refine Gr.addN ?_ _
        ))) hg2
  replace hy1 := hy1.keepN g2
  replace hh1 := hh1.keepN g2
  skip
  all_goals (conv => whnf)
  all_goals (try dsimp only)
  refine TRead_call 0 12 B11 H11 (by omega) (by omega) (Looks.ownbs hy1) (Looks.ownis hh1) fun H3 u d xs hg3 hu hd hsp hun hdn hxn hud hux hdx => ?_
  rw [hr1.1]
  rw [hr1.2.1] at hu
  rw [hr1.2.2, p11] at hsp
  clear hr1
  replace hy1 := hy1.keepN hg3
  replace hh1 := hh1.keepN hg3
  replace hw := hw.keepN hg3
  skip
  all_goals (conv => whnf)
  all_goals (try dsimp only)
  refine List_call 129 fun H4 hg4 => ?_
  rw [ls129.1, ls129.2]
  replace hy1 := hy1.keepN hg4
  replace hh1 := hh1.keepN hg4
  replace hw := hw.keepN hg4
  replace hu := hu.keepN hg4
  replace hd := NestR.keepN hg4 hd
  replace hsp := hsp.keepN hg4
  have hul : (bk U11).length = 1 := rfl
  have hxl := hsp.len
  have hxl1 : (xs.map fun x => [x]).length = 1 := by rw [List.length_map, hxl]; rfl
  obtain ⟨x0, hx0⟩ : ∃ x0, xs = [x0] := by
    match xs, hxl with
    | [a], _ => exact ⟨a, rfl⟩
    | [], h => simp at h
    | _ :: _ :: _, h => simp at h
  subst hx0
  have hx0 := hsp.own 0 x0 _ rfl rfl
  have hdl2 : (bs [7, 0, 0, 0, 0, 0, 0, 0, 0, 0, 0, 0, 0, 0, 0, 0]).length = 16 := rfl
  generalize B11 = P at *
  generalize H11 = Q at *
  repeat' (first
    | ((with_reducible refine Side.intro ?_) <;> (first
    | omega
    | (simp only [List.append_nil, List.nil_append, List.map_nil]; first | exact List.nodup_nil | exact nodup_bid1 _ | exact nodup_bid2 (by assumption))
    | ((first | refine fresh_tup ?_ | skip); (repeat (first |  exact FreshA.sl _ _ FreshA_bs | exact FreshA.sl _ _ FreshA_is | exact FreshA.nils | exact FreshA.nilp | exact FreshA.int _ _ | exact FreshA.bool _ | exact FreshA.str _ | exact fresh_nil | refine fresh_cons ?_ ?_ | with_reducible refine fresh_aggR ?_ | with_reducible refine fresh_agg ?_ | with_reducible exact fresh_nilA | with_reducible refine fresh_consA ?_ ?_)); done)
    ))
    | ((conv => whnf) <;> (first
    | (with_reducible refine and_same ?_)
    | (with_reducible refine and_side ?_ ?_)
    | (with_reducible refine Br.yes rfl ?_)
    | ((with_reducible apply Br.yes) ; (focus omega))
    | ((with_reducible apply blkAt_intro) ; (focus (first
    | ((repeat (first
    | assumption
    )); done)
    )) ; (focus (first | rfl | assumption | omega)) ; (try dsimp only))
    | ((with_reducible apply nthR_is1) ; (focus assumption))
    | ((with_reducible apply lenR_own) ; (focus assumption))
    | ((with_reducible apply rowsR_own) ; (focus assumption))
    | ((with_reducible apply ia_own) ; (focus assumption))
    | ((with_reducible apply NestR.ia) ; (focus assumption))
    | ((with_reducible apply NestR.lenW) ; (focus assumption))
    | (with_reducible refine NOut.lit ?_)
    | (with_reducible refine nthR_z ?_)
    | ((with_reducible apply nthR_left) ; (focus (first | omega | (simp only [List.length_append, List.length_cons, List.length_nil, List.length_take, List.length_drop, bs_length]; omega))))
    | ((with_reducible apply bytesR_intro) ; (focus (first | rfl | (simp only [bs_take, bs_drop, bs_append]; rfl))))
    | (with_reducible intro _)
    ))
    )
  all_goals (conv => whnf)
  all_goals (try dsimp only)
  exact ret_bool rfl
theorem small_call {σ : AH} {Q : AV → AH → Prop} (h : ∀ σ', Gr σ σ' none → Q (.bool true) σ') : CallS Try.prog F.joistlaw11_small [] σ Q :=
  call_one small_ok .nil rfl h
end Go.Proofs.Ytjbfdhnfdehdeaa
