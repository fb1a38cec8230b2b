/- The contracts of the parser's sequences and lists of arrays and of tasks (written by wip/genseq.py). -/
import Derived.Test.YtaaaicpjlaeiiaaDoorParT
namespace Go.Proofs.YtaaaicpjlaeiiaaDoor
open Go.RowKit Go.Maps
open PP (Tree ArrD TaskD)

theorem perm4 {α : Type} (v : List α) (x y z u : α) (l : List α) : (v ++ (x :: y :: z :: u :: l)).Perm (x :: y :: z :: u :: (v ++ l)) := List.perm_append_comm_assoc v [x, y, z, u] l
theorem perm6 {α : Type} (v a t x l : List α) (c d e f : α) : (v ++ (a ++ (c :: d :: e :: f :: (t ++ (x ++ l))))).Perm (t ++ ((v ++ (a ++ x)) ++ (c :: d :: e :: f :: l))) := by
  classical
  exact List.perm_iff_count.2 (fun y => by simp only [List.count_append, List.count_cons]; omega)
theorem perm7 {α : Type} (t x l : List α) (c d e f : α) : (t ++ (x ++ (c :: d :: e :: f :: l))).Perm (c :: d :: e :: f :: (t ++ (x ++ l))) := by
  classical
  exact List.perm_iff_count.2 (fun y => by simp only [List.count_append, List.count_cons]; omega)
theorem permL {α : Type} (c o l p : α) (r : List α) : (c :: o :: l :: p :: r).Perm (c :: l :: p :: o :: r) := by
  classical
  exact List.perm_iff_count.2 (fun y => by simp only [List.count_cons]; omega)
/-- An element of a row of tasks. -/
structure TaskEl where
  nm : List UInt8
  per : Int
  vs : List (List UInt8)
  ar : List ArrD
  kids : List Tree
  A : Option Addr
  c : Nat
  vv : Value
  va : Value
  bv : List OwnB
  ba : List OwnB
def TaskEl.cells (x : TaskEl) : List Value := [.string ⟨x.nm.toArray⟩, .int .i64 x.per, x.vv, x.va, .int .u8 47, .int .i64 0, .string ⟨#[]⟩, .slice x.A x.kids.length x.c]
def TaskEl.data (x : TaskEl) : TaskD := ⟨x.nm, x.per, x.vs, x.ar, .node 47 0 [] x.kids⟩
def tasksCells (xs : List TaskEl) : List Value := xs.flatMap TaskEl.cells
structure TaskEl.Ok (x : TaskEl) (base : Nat) (bx : List OwnB) (kx : List (Option Addr × List Tree)) : Prop where
  rv : RowV base 9 1 x.vv x.vs.length (strCells x.vs) x.bv
  ra : RowV base 89 2 x.va x.ar.length (arrCells x.ar) x.ba
  lv : x.vs.length ≤ 12
  la : x.ar.length ≤ 4
  mv : ∀ y ∈ x.bv, y ∈ bx
  ma : ∀ y ∈ x.ba, y ∈ bx
  mx : (x.A, x.kids) ∈ kx
theorem infoTask : (Tryd.prog.info? 91).map (fun i => (i.zero, i.size, i.bytes)) = some (some (.agg #[.string ⟨#[]⟩, .int .i64 0, .slice none 0 0, .slice none 0 0, .int .u8 0, .int .i64 0, .string ⟨#[]⟩, .slice none 0 0]), 8, 128) := by kernel_rfl

section
set_option maxHeartbeats 2000000
set_option maxRecDepth 100000
variable {w0 : World} {Z : Nat → Prop} {b : Nat} {X : Loc} {E : PP.Env} {σ : PP.St} {bl : List OwnB} {ks : List (Option Addr × List Tree)} {W : World}
def SeqARel (w0 : World) (Z : Nat → Prop) (b : Nat) (X : Loc) (E : PP.Env) (σ : PP.St) (bl : List OwnB) (ks : List (Option Addr × List Tree)) (kw : List UInt8) (lim Bc Bl Bp Bo : Nat) (va : Value) (wr : World) : Prop :=
  ∃ σ' ar ba, RowV w0.heap.size 89 2 va (ar : List ArrD).length (arrCells ar) ba ∧ Inv w0 Z b X E σ' (ba ++ ((Bc, 3, #[.int .i64 ((ar.length : Int))]) :: (Bl, 3, #[.int .i64 (lim : Int)]) :: (Bp, 95, #[.pointer (some ⟨b, 0, none⟩)]) :: (Bo, 104, #[.func (.func 67) #[.pointer (some ⟨b, 0, none⟩)] #[]]) :: bl)) ks wr ∧ ar.length ≤ σ'.next ∧ ∀ n r, PP.listP E kw lim (fun _ σ => some (PP.arrayP E σ)) n σ' ar = some r → ∃ n', PP.listP E kw lim (fun _ σ => some (PP.arrayP E σ)) n' σ [] = some r
def SeqAEnd (w0 : World) (Z : Nat → Prop) (b : Nat) (X : Loc) (E : PP.Env) (σ : PP.St) (bl : List OwnB) (ks : List (Option Addr × List Tree)) (kw : List UInt8) (lim Bc Bl Bp Bo : Nat) (r : Ending) (w' : World) : Prop :=
  ∃ σ' ar va ba, r = .returned va ∧ RowV w0.heap.size 89 2 va (ar : List ArrD).length (arrCells ar) ba ∧ Inv w0 Z b X E σ' (ba ++ ((Bc, 3, #[.int .i64 ((ar.length : Int))]) :: (Bl, 3, #[.int .i64 (lim : Int)]) :: (Bp, 95, #[.pointer (some ⟨b, 0, none⟩)]) :: (Bo, 104, #[.func (.func 67) #[.pointer (some ⟨b, 0, none⟩)] #[]]) :: bl)) ks w' ∧ ar.length ≤ σ'.next ∧ ∃ n, PP.listP E kw lim (fun _ σ => some (PP.arrayP E σ)) n σ [] = some (σ', ar)
theorem seqA_inv (s : ByteArray) {B1 B2 Bc Bl Bp Bo lim : Nat} (h : Inv w0 Z b X E σ ((Bc, 3, #[.int .i64 (0)]) :: (Bl, 3, #[.int .i64 (lim : Int)]) :: (Bp, 95, #[.pointer (some ⟨b, 0, none⟩)]) :: (Bo, 104, #[.func (.func 67) #[.pointer (some ⟨b, 0, none⟩)] #[]]) :: bl) ks W) (m1 : (B1, 95, #[.pointer (some ⟨b, 0, none⟩)]) ∈ bl) (m2 : (B2, 9, #[.string s]) ∈ bl) :
    Calls Tryd.prog 98 #[.pointer (some ⟨b, 0, none⟩), .func (.func 100) #[] #[.pointer (some ⟨B1, 0, none⟩), .pointer (some ⟨B2, 0, none⟩)], .func (.func 99) #[] #[.pointer (some ⟨Bc, 0, none⟩), .pointer (some ⟨Bl, 0, none⟩), .pointer (some ⟨Bp, 0, none⟩), .pointer (some ⟨Bo, 0, none⟩)]] W (SeqAEnd w0 Z b X E σ bl ks s.data.toList lim Bc Bl Bp Bo) := by
  have hcb := fun (u v : Value) (W : World) => cf_begins u v W
  have hcc := fun (x y u v : Value) (W : World) => cf_cloA x y u v W
  have hlen := h.ps.len
  have HI := Lib.hid h
  have M1 := Lib.hid m1
  have M2 := Lib.hid m2
  obtain ⟨i1, ki, kz0, kz1, kz2⟩ := info_parts infoArr
  have K0 := Lib.hid ki
  have K1 := Lib.hid kz0
  have K2 := Lib.hid kz1
  have K3 := Lib.hid kz2
  clear ki kz0 kz1 kz2 h m1 m2
  go_enter Tryd.func98, Tryd.ntmps98
  go_wp2_with fail
  go_loopw [7] (fun v wr => SeqARel w0 Z b X E σ bl ks s.data.toList lim Bc Bl Bp Bo v wr) (fun _ wr => leftOf E b wr)
  case atStart => exact ⟨σ, [], [], RowV.nil _ _ _, HI.out, Nat.zero_le _, fun n r hr => ⟨n, hr⟩⟩
  case round =>
    obtain ⟨σ', ar, ba, hra, hI, hcnt, hgo⟩ := hrel
    have hpn := hI.ps.next
    obtain ⟨Aa, ca, rfl⟩ := hra.form
    have HRA := Lib.hid hra
    have HW := Lib.hid hI
    have HGO := Lib.hid hgo
    skip
    clear hra hI hgo
    cases sv : PP.sees E σ' s.data.toList with
    | false =>
      have SV := Lib.hid sv
      clear sv
      go_wp2_with fail
      refine (begins1_inv s HW.out (by simp [M1.out]) (by simp [M2.out]) SV.out).mono ?_
      rintro e w1 ⟨rfl, I1⟩
      have HI1 := Lib.hid I1
      clear I1
      go_wp2_with fail
      go_ret
      obtain ⟨n', hn'⟩ := HGO.out 1 (σ', ar) (by rw [PP.listP, SV.out]; rfl)
      exact ⟨σ', ar, _, ba, rfl, HRA.out, HI1.out, hcnt, n', hn'⟩
    | true =>
      have hse := PP.sees_err E sv
      have SV := Lib.hid sv
      clear sv
      go_wp2_with fail
      refine (begins1_inv s HW.out (by simp [M1.out]) (by simp [M2.out]) SV.out).mono ?_
      rintro e w1 ⟨rfl, I1⟩
      have HI1 := Lib.hid (I1.perm (perm4 _ _ _ _ _ _))
      clear I1
      go_wp2_with fail
      refine (cloA_inv HI1.out hse.2 (by omega)).mono ?_
      rintro e w3 ⟨rfl, I3⟩
      have I4 := (I3.perm (perm4 _ _ _ _ _ _).symm)
      have HI4 := Lib.hid (I4.more (.cells #[.string ⟨(PP.arrayP E (sigL E lim ar.length σ')).2.name.toArray⟩, .int .i64 (PP.arrayP E (sigL E lim ar.length σ')).2.len] 89))
      have hs4 := I4.fr.size
      have hnx : σ'.next < (PP.arrayP E (sigL E lim ar.length σ')).1.next := by have := PP.arrayP_next E (sigL E lim ar.length σ'); rw [sigL_next] at this; exact this
      clear I3 I4 HI1
      generalize hY : PP.arrayP E (sigL E lim ar.length σ') = Y at *
      obtain ⟨σ3, ad⟩ := Y
      have HY := Lib.hid hY
      clear hY
      simp only [] at HI4 hnx
      go_wp2_with (at_builtin; refine wpList_append_lies _ rfl _ _ 36 rfl w0.heap.size 89 i1 (.agg #[.string ⟨#[]⟩, .int .i64 0]) 2 24 Tryd.underlying36 K0.out K1.out K2.out K3.out rfl (by decide) _ _ _ rfl (HRA.out.own (fun x hx => HI4.out.blk (by simp [hx]))) ⟨w3.heap.size, 0, none⟩ 1 1 [.string ⟨ad.name.toArray⟩, .int .i64 ad.len] rfl rfl ?c1 ?c2 (by decide) ?c3 ?c4 ?c5 (w3.heap.size + 1) ?c6 ?_)
      case c1 => exact World.news_of_block (heap_alloc_new w3 _)
      case c2 => intro u hu; simp at hu; rcases hu with rfl | rfl <;> rfl
      case c3 => unfold maxLen; omega
      case c4 => omega
      case c5 => simp; omega
      case c6 => simp
      intro g cap w7 hown7 hg7 hat7 hlt7
      obtain ⟨bs', hr', I7⟩ := Inv.append HI4.out HRA.out hown7 hg7 hat7 (by simp) rfl
      have HI7 := Lib.hid I7
      have HR7 := Lib.hid hr'
      clear I7 hr' hown7 hg7 hat7 HI4
      go_wp2_with fail
      go_roundw
      case rel =>
        refine ⟨σ3, ar ++ [ad], bs', by have := HR7.out; simpa [arrCells] using this, by have := HI7.out; simpa using this, by simp; omega, fun n r hr => HGO.out (n + 1) r ?_⟩
        rw [PP.listP, SV.out]
        simp only [if_true]
        rw [show (if lim < ar.length + 1 then PP.fail σ' (PP.here E σ') 5 else σ') = sigL E lim ar.length σ' from rfl, HY.out]
        exact hr
      case measure => exact left_lt HW.out.ps HI7.out.ps hse.1 hse.2 (.inr hnx)
def ListAEnd (w0 : World) (Z : Nat → Prop) (b : Nat) (X : Loc) (E : PP.Env) (σ : PP.St) (bl : List OwnB) (ks : List (Option Addr × List Tree)) (kw : List UInt8) (lim : Nat) (r : Ending) (w' : World) : Prop :=
  ∃ σ' ar va ba, r = .returned va ∧ RowV w0.heap.size 89 2 va (ar : List ArrD).length (arrCells ar) ba ∧ Inv w0 Z b X E σ' (ba ++ bl) ks w' ∧ ar.length ≤ σ'.next ∧ ∃ n, PP.listP E kw lim (fun _ σ => some (PP.arrayP E σ)) n σ [] = some (σ', ar)
theorem listA_inv (s : ByteArray) {B1 B2 lim : Nat} (h : Inv w0 Z b X E σ bl ks W) (m1 : (B1, 95, #[.pointer (some ⟨b, 0, none⟩)]) ∈ bl) (m2 : (B2, 9, #[.string s]) ∈ bl) :
    Calls Tryd.prog 65 #[.pointer (some ⟨b, 0, none⟩), .func (.func 100) #[] #[.pointer (some ⟨B1, 0, none⟩), .pointer (some ⟨B2, 0, none⟩)], .int .i64 (lim : Int), .func (.func 67) #[.pointer (some ⟨b, 0, none⟩)] #[]] W (ListAEnd w0 Z b X E σ bl ks s.data.toList lim) := by
  have hmf : ∀ (fn : Fn) (first cap : Array Value) (w : World), (Instr.makeFunc fn first cap).run Tryd.prog w = .ok (.func fn first cap) w := fun _ _ _ _ => rfl
  have I1 := (((h.alloc #[.pointer (some ⟨b, 0, none⟩)] 95 (n := W.heap.size) rfl).alloc #[.int .i64 (lim : Int)] 3 (n := W.heap.size + 1) (by simp)).alloc #[.func (.func 67) #[.pointer (some ⟨b, 0, none⟩)] #[]] 104 (n := W.heap.size + 2) (by simp)).alloc #[.int .i64 0] 3 (n := W.heap.size + 3) (by simp)
  have HS := Lib.hid (seqA_inv s (I1.perm (permL _ _ _ _ _)) m1 m2)
  clear h m1 m2 I1
  go_enter Tryd.func65, Tryd.ntmps65
  go_wp2_with fail
  refine HS.out.mono ?_
  rintro e w1 ⟨σ1, ar, va, ba, rfl, hr, I1, hcnt, hn⟩
  have HI2 := Lib.hid (I1.perm (perm4 _ _ _ _ _ _)).drop.drop.drop.drop
  have HR := Lib.hid hr
  have HN := Lib.hid hn
  skip
  clear hr hn I1
  go_wp2_with fail
  go_ret
  exact ⟨σ1, ar, va, ba, rfl, HR.out, HI2.out, hcnt, HN.out⟩
def SeqTRel (w0 : World) (Z : Nat → Prop) (b : Nat) (X : Loc) (E : PP.Env) (σ : PP.St) (bl : List OwnB) (kw : List UInt8) (lim Bc Bl Bp Bo : Nat) (va : Value) (wr : World) : Prop :=
  ∃ σ' ar ba bx kx, RowV w0.heap.size 91 8 va (ar : List TaskEl).length (tasksCells ar) ba ∧ (∀ x ∈ ar, TaskEl.Ok x w0.heap.size bx kx) ∧ Inv w0 Z b X E σ' (ba ++ (bx ++ ((Bc, 3, #[.int .i64 ((ar.length : Int))]) :: (Bl, 3, #[.int .i64 (lim : Int)]) :: (Bp, 95, #[.pointer (some ⟨b, 0, none⟩)]) :: (Bo, 106, #[.func (.func 69) #[.pointer (some ⟨b, 0, none⟩)] #[]]) :: bl))) kx wr ∧ ar.length ≤ σ'.next ∧ ∀ n r, PP.listP E kw lim (PP.taskP E) n σ' (ar.map TaskEl.data) = some r → ∃ n', PP.listP E kw lim (PP.taskP E) n' σ [] = some r
def SeqTEnd (w0 : World) (Z : Nat → Prop) (b : Nat) (X : Loc) (E : PP.Env) (σ : PP.St) (bl : List OwnB) (kw : List UInt8) (lim Bc Bl Bp Bo : Nat) (r : Ending) (w' : World) : Prop :=
  ∃ σ' ar va ba bx kx, r = .returned va ∧ RowV w0.heap.size 91 8 va (ar : List TaskEl).length (tasksCells ar) ba ∧ (∀ x ∈ ar, TaskEl.Ok x w0.heap.size bx kx) ∧ Inv w0 Z b X E σ' (ba ++ (bx ++ ((Bc, 3, #[.int .i64 ((ar.length : Int))]) :: (Bl, 3, #[.int .i64 (lim : Int)]) :: (Bp, 95, #[.pointer (some ⟨b, 0, none⟩)]) :: (Bo, 106, #[.func (.func 69) #[.pointer (some ⟨b, 0, none⟩)] #[]]) :: bl))) kx w' ∧ ar.length ≤ σ'.next ∧ ∃ n, PP.listP E kw lim (PP.taskP E) n σ [] = some (σ', (ar.map TaskEl.data))
theorem seqT_inv (s : ByteArray) {B1 B2 Bc Bl Bp Bo lim : Nat} (h : Inv w0 Z b X E σ ((Bc, 3, #[.int .i64 (0)]) :: (Bl, 3, #[.int .i64 (lim : Int)]) :: (Bp, 95, #[.pointer (some ⟨b, 0, none⟩)]) :: (Bo, 106, #[.func (.func 69) #[.pointer (some ⟨b, 0, none⟩)] #[]]) :: bl) ks W) (m1 : (B1, 95, #[.pointer (some ⟨b, 0, none⟩)]) ∈ bl) (m2 : (B2, 9, #[.string s]) ∈ bl) :
    Calls Tryd.prog 105 #[.pointer (some ⟨b, 0, none⟩), .func (.func 100) #[] #[.pointer (some ⟨B1, 0, none⟩), .pointer (some ⟨B2, 0, none⟩)], .func (.func 106) #[] #[.pointer (some ⟨Bc, 0, none⟩), .pointer (some ⟨Bl, 0, none⟩), .pointer (some ⟨Bp, 0, none⟩), .pointer (some ⟨Bo, 0, none⟩)]] W (SeqTEnd w0 Z b X E σ bl s.data.toList lim Bc Bl Bp Bo) := by
  have hcb := fun (u v : Value) (W : World) => cf_begins u v W
  have hcc := fun (x y u v : Value) (W : World) => cf_cloT x y u v W
  have hlen := h.ps.len
  have HI := Lib.hid h
  have M1 := Lib.hid m1
  have M2 := Lib.hid m2
  obtain ⟨i1, ki, kz0, kz1, kz2⟩ := info_parts infoTask
  have K0 := Lib.hid ki
  have K1 := Lib.hid kz0
  have K2 := Lib.hid kz1
  have K3 := Lib.hid kz2
  clear ki kz0 kz1 kz2 h m1 m2
  go_enter Tryd.func105, Tryd.ntmps105
  go_wp2_with fail
  go_loopw [7] (fun v wr => SeqTRel w0 Z b X E σ bl s.data.toList lim Bc Bl Bp Bo v wr) (fun _ wr => leftOf E b wr)
  case atStart => exact ⟨σ, [], [], [], ks, RowV.nil _ _ _, fun x hx => by simp at hx, HI.out, Nat.zero_le _, fun n r hr => ⟨n, hr⟩⟩
  case round =>
    obtain ⟨σ', ar, ba, bx, kx, hra, hok, hI, hcnt, hgo⟩ := hrel
    have hpn := hI.ps.next
    obtain ⟨Aa, ca, rfl⟩ := hra.form
    have HRA := Lib.hid hra
    have HW := Lib.hid hI
    have HGO := Lib.hid hgo
    have HOK := Lib.hid hok; clear hok
    clear hra hI hgo
    cases sv : PP.sees E σ' s.data.toList with
    | false =>
      have SV := Lib.hid sv
      clear sv
      go_wp2_with fail
      refine (begins1_inv s HW.out (by simp [M1.out]) (by simp [M2.out]) SV.out).mono ?_
      rintro e w1 ⟨rfl, I1⟩
      have HI1 := Lib.hid I1
      clear I1
      go_wp2_with fail
      go_ret
      obtain ⟨n', hn'⟩ := HGO.out 1 (σ', (ar.map TaskEl.data)) (by rw [PP.listP, SV.out]; rfl)
      exact ⟨σ', ar, _, ba, bx, kx, rfl, HRA.out, HOK.out, HI1.out, hcnt, n', hn'⟩
    | true =>
      have hse := PP.sees_err E sv
      have SV := Lib.hid sv
      clear sv
      go_wp2_with fail
      refine (begins1_inv s HW.out (by simp [M1.out]) (by simp [M2.out]) SV.out).mono ?_
      rintro e w1 ⟨rfl, I1⟩
      have HI1 := Lib.hid (I1.perm (perm7 _ _ _ _ _ _ _))
      clear I1
      go_wp2_with fail
      refine (cloT_inv HI1.out hse.2 (by omega)).mono ?_
      rintro e w3 ⟨σ3, nm, per, vs, tr, kids, A, c, vv, va, bv, bw, rfl, hrv, hrw, hlv, hlw, I3, ⟨mt, ht⟩, hnx⟩
      rw [sigL_next] at hnx
      have I4 := (I3.perm (perm6 _ _ _ _ _ _ _ _ _))
      have HI4 := Lib.hid (I4.more (.cells #[.string ⟨nm.toArray⟩, .int .i64 per, vv, va, .int .u8 47, .int .i64 0, .string ⟨#[]⟩, .slice A kids.length c] 91))
      have hs4 := I4.fr.size
      have HRV := Lib.hid hrv
      have HRW := Lib.hid hrw
      have HT := Lib.hid ht
      obtain ⟨Av, cv, rfl⟩ := hrv.form
      obtain ⟨Aw, cw, rfl⟩ := hrw.form
      clear I3 I4 HI1 ht hrv hrw
      go_wp2_with (at_builtin; refine wpList_append_lies _ rfl _ _ 37 rfl w0.heap.size 91 i1 (.agg #[.string ⟨#[]⟩, .int .i64 0, .slice none 0 0, .slice none 0 0, .int .u8 0, .int .i64 0, .string ⟨#[]⟩, .slice none 0 0]) 8 128 Tryd.underlying37 K0.out K1.out K2.out K3.out rfl (by decide) _ _ _ rfl (HRA.out.own (fun x hx => HI4.out.blk (by simp [hx]))) ⟨w3.heap.size, 0, none⟩ 1 1 [.string ⟨nm.toArray⟩, .int .i64 per, .slice Av vs.length cv, .slice Aw tr.length cw, .int .u8 47, .int .i64 0, .string ⟨#[]⟩, .slice A kids.length c] rfl rfl ?c1 ?c2 (by decide) ?c3 ?c4 ?c5 (w3.heap.size + 1) ?c6 ?_)
      case c1 => exact World.news_of_block (heap_alloc_new w3 _)
      case c2 => intro u hu; simp at hu; rcases hu with rfl | rfl | rfl | rfl | rfl | rfl | rfl | rfl <;> rfl
      case c3 => unfold maxLen; omega
      case c4 => omega
      case c5 => simp; omega
      case c6 => simp
      intro g cap w7 hown7 hg7 hat7 hlt7
      obtain ⟨bs', hr', I7⟩ := Inv.append HI4.out HRA.out hown7 hg7 hat7 (by simp) rfl
      have HI7 := Lib.hid I7
      have HR7 := Lib.hid hr'
      clear I7 hr' hown7 hg7 hat7 HI4
      go_wp2_with fail
      go_roundw
      case rel =>
        refine ⟨σ3, ar ++ [⟨nm, per, vs, tr, kids, A, c, _, _, bv, bw⟩], bs', bv ++ (bw ++ bx), (A, kids) :: kx, by have := HR7.out; simpa [tasksCells, TaskEl.cells] using this, fun x hx => ?_, by have := HI7.out; simpa using this, by simp; omega, fun n r hr => HGO.out (max mt n + 1) r ?_⟩
        · rcases List.mem_append.1 hx with hx | hx
          · have hk := HOK.out x hx
            exact ⟨hk.rv, hk.ra, hk.lv, hk.la, fun y hy => by simp [hk.mv y hy], fun y hy => by simp [hk.ma y hy], by simp [hk.mx]⟩
          · simp only [List.mem_cons, List.not_mem_nil, or_false] at hx
            subst hx
            exact ⟨HRV.out, HRW.out, hlv, hlw, fun y hy => by simp [hy], fun y hy => by simp [hy], by simp⟩
        · rw [PP.listP, SV.out]
          simp only [if_true]
          rw [List.length_map, show (if lim < ar.length + 1 then PP.fail σ' (PP.here E σ') 5 else σ') = sigL E lim ar.length σ' from rfl, PP.taskP_le E (Nat.le_max_left mt n) HT.out, Option.bind_some]
          rw [List.map_append] at hr
          exact PP.listP_le E (fun n σ r hh => PP.taskP_le E (Nat.le_succ n) hh) (Nat.le_max_right mt n) hr
      case measure => exact left_lt HW.out.ps HI7.out.ps hse.1 hse.2 (.inr hnx)
def ListTEnd (w0 : World) (Z : Nat → Prop) (b : Nat) (X : Loc) (E : PP.Env) (σ : PP.St) (bl : List OwnB) (kw : List UInt8) (lim : Nat) (r : Ending) (w' : World) : Prop :=
  ∃ σ' ar va ba bx kx, r = .returned va ∧ RowV w0.heap.size 91 8 va (ar : List TaskEl).length (tasksCells ar) ba ∧ (∀ x ∈ ar, TaskEl.Ok x w0.heap.size bx kx) ∧ Inv w0 Z b X E σ' (ba ++ (bx ++ bl)) kx w' ∧ ar.length ≤ σ'.next ∧ ∃ n, PP.listP E kw lim (PP.taskP E) n σ [] = some (σ', (ar.map TaskEl.data))
theorem listT_inv (s : ByteArray) {B1 B2 lim : Nat} (h : Inv w0 Z b X E σ bl ks W) (m1 : (B1, 95, #[.pointer (some ⟨b, 0, none⟩)]) ∈ bl) (m2 : (B2, 9, #[.string s]) ∈ bl) :
    Calls Tryd.prog 68 #[.pointer (some ⟨b, 0, none⟩), .func (.func 100) #[] #[.pointer (some ⟨B1, 0, none⟩), .pointer (some ⟨B2, 0, none⟩)], .int .i64 (lim : Int), .func (.func 69) #[.pointer (some ⟨b, 0, none⟩)] #[]] W (ListTEnd w0 Z b X E σ bl s.data.toList lim) := by
  have hmf : ∀ (fn : Fn) (first cap : Array Value) (w : World), (Instr.makeFunc fn first cap).run Tryd.prog w = .ok (.func fn first cap) w := fun _ _ _ _ => rfl
  have I1 := (((h.alloc #[.pointer (some ⟨b, 0, none⟩)] 95 (n := W.heap.size) rfl).alloc #[.int .i64 (lim : Int)] 3 (n := W.heap.size + 1) (by simp)).alloc #[.func (.func 69) #[.pointer (some ⟨b, 0, none⟩)] #[]] 106 (n := W.heap.size + 2) (by simp)).alloc #[.int .i64 0] 3 (n := W.heap.size + 3) (by simp)
  have HS := Lib.hid (seqT_inv s (I1.perm (permL _ _ _ _ _)) m1 m2)
  clear h m1 m2 I1
  go_enter Tryd.func68, Tryd.ntmps68
  go_wp2_with fail
  refine HS.out.mono ?_
  rintro e w1 ⟨σ1, ar, va, ba, bx, kx, rfl, hr, hok, I1, hcnt, hn⟩
  have HI2 := Lib.hid (I1.perm (perm7 _ _ _ _ _ _ _)).drop.drop.drop.drop
  have HR := Lib.hid hr
  have HN := Lib.hid hn
  have HOK := Lib.hid hok; clear hok
  clear hr hn I1
  go_wp2_with fail
  go_ret
  exact ⟨σ1, ar, va, ba, bx, kx, rfl, HR.out, HOK.out, HI2.out, hcnt, HN.out⟩
end
end Go.Proofs.YtaaaicpjlaeiiaaDoor
