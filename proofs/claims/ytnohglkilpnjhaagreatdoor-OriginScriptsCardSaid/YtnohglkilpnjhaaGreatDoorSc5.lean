/- Lemmas that the statement of this claim leans on; their own comments are taken out, for the size of the claim. No condition beyond what each lemma states. -/
import Derived.Test.YtnohglkilpnjhaaGreatDoorSc4
import Derived.Carry
import Derived.Sort.Grow
import Derived.Laws.Externs
import GoSem.Extern.BytealgCompare
set_option linter.unusedVariables false
set_option linter.unusedSimpArgs false
set_option linter.unusedSectionVars false
namespace Go.Proofs.YtnohglkilpnjhaaGreatDoor
open Go.RowKit
set_option maxRecDepth 100000
def within (n lo hi:Int):Bool:=decide (lo ≤ n∧n ≤ hi)
theorem within_any (n lo hi:Int) (w:World):Calls Tryz.prog 72 #[.int .i64 n,.int .i64 lo,.int .i64 hi] w fun e w'=>e = .returned (.bool (within n lo hi))∧w' = w:=by
 by_cases h1:lo ≤ n
 ·by_cases h2:n ≤ hi
  ·have e:within n lo hi = true:=decide_eq_true ⟨h1,h2⟩
   rw [e]
   clear e
   go_enter Tryz.func72,Tryz.ntmps72
   go_wp2
   go_ret
   exact ⟨rfl,rfl⟩
  ·have e:within n lo hi = false:=decide_eq_false (fun h=>h2 h.2)
   rw [e]
   clear e
   go_enter Tryz.func72,Tryz.ntmps72
   go_wp2
   go_ret
   exact ⟨rfl,rfl⟩
 ·have e:within n lo hi = false:=decide_eq_false (fun h=>h1 h.1)
  rw [e]
  clear e
  go_enter Tryz.func72,Tryz.ntmps72
  go_wp2
  go_ret
  exact ⟨rfl,rfl⟩
def newOk (a b:Int):Bool:=within a 1 1000 && within b 1 64
theorem newOk_iff {a b:Int}:newOk a b = true↔(1 ≤ a∧a ≤ 1000)∧(1 ≤ b∧b ≤ 64):=by simp [newOk,within]
def NewPost (w:World) (a b:Int) (e:Ending) (w':World):Prop:=
 Below w.heap.size w w'∧((newOk a b = true∧∃ t mb,e = .returned (.tuple #[.pointer (some ⟨t,0,none⟩),.int .i64 0])∧TabP w' t a b mb []∧w.heap.size ≤ t∧w.heap.size ≤ mb)∨(newOk a b = false∧e = .returned (.tuple #[.pointer none,.int .i64 1])))
theorem build_table (a b:Int) (k:Nat) (W:World):(Instr.build 157 #[(0,.int .i64 a),(1,.int .i64 b),(2,.map (some k))]).run Tryz.prog W = .ok (.agg #[.int .i64 a,.int .i64 b,.map (some k)]) W:=by kernel_rfl
set_option maxHeartbeats 800000 in
theorem New_any (a b:Int) (w:World):Calls Tryz.prog 33 #[.int .i64 a,.int .i64 b] w (NewPost w a b):=by
 unfold NewPost
 have hb:=build_table a b
 have hmm:=@run_makeMap Tryz.prog
 rcases hp:within a 1 1000 with _ | _
 ·have hn:newOk a b = false:=by simp [newOk,hp]
  have HN:=Lib.hid hn
  clear hn
  go_enter Tryz.func33,Tryz.ntmps33
  go_wp2_with (go_at_call 72;refine (within_any _ _ _ _).mono ?_;rintro e w1 ⟨rfl,rfl⟩)
  go_ret2
  exact ⟨Below.refl _ _,.inr ⟨HN.out,rfl⟩⟩
 ·rcases hq:within b 1 64 with _ | _
  ·have hn:newOk a b = false:=by simp [newOk,hq]
   have HN:=Lib.hid hn
   clear hn
   go_enter Tryz.func33,Tryz.ntmps33
   go_wp2_with (go_at_call 72;refine (within_any _ _ _ _).mono ?_;rintro e w1 ⟨rfl,rfl⟩)
   go_ret2
   exact ⟨Below.refl _ _,.inr ⟨HN.out,rfl⟩⟩
  ·have hn:newOk a b = true:=by simp [newOk,hp,hq]
   have HN:=Lib.hid hn
   clear hn
   go_enter Tryz.func33,Tryz.ntmps33
   go_wp2_with (go_at_call 72;refine (within_any _ _ _ _).mono ?_;rintro e w1 ⟨rfl,rfl⟩)
   go_ret2
   have h1:(w1.alloc (.map #[] 0)).heap.size = w1.heap.size + 1:=by simp
   have hB1:Below w1.heap.size w1 (w1.alloc (.map #[] 0)):=(Below.refl _ w1).alloc (Nat.le_refl _) _
   refine ⟨hB1.alloc (by omega) _,.inl ⟨HN.out,w1.heap.size + 1,w1.heap.size,rfl,⟨?_,?_,(fun x hx=>by cases hx),?_⟩,Nat.le_succ _,Nat.le_refl _⟩⟩
   ·have:=heap_alloc_new (w1.alloc (.map #[] 0)) (.cells #[.int .i64 a,.int .i64 b,.map (some w1.heap.size)] 157 (0,0))
    rwa [h1] at this
   ·exact (mapL_made (KT:=KDig) w1).of_new ((Below.refl _ _).alloc (Nat.le_refl _) _)
   ·simp
theorem New_ok (a b:Int) (w:World) (h:newOk a b = true):Calls Tryz.prog 33 #[.int .i64 a,.int .i64 b] w fun e w'=>∃ t mb,e = .returned (.tuple #[.pointer (some ⟨t,0,none⟩),.int .i64 0])∧TabP w' t a b mb []∧w.heap.size ≤ t∧w.heap.size ≤ mb∧Below w.heap.size w w':=
 (New_any a b w).mono fun e w' ⟨h1,h2⟩=>by
  rcases h2 with ⟨_,t,mb,h3,h4,h5,h6⟩ | ⟨h3,_⟩
  ·exact ⟨t,mb,h3,h4,h5,h6,h1⟩
  ·rw [h] at h3;cases h3
theorem New_bad (a b:Int) (w:World) (h:newOk a b = false):Calls Tryz.prog 33 #[.int .i64 a,.int .i64 b] w fun e w'=>e = .returned (.tuple #[.pointer none,.int .i64 1])∧Below w.heap.size w w':=
 (New_any a b w).mono fun e w' ⟨h1,h2⟩=>by
  rcases h2 with ⟨h3,_⟩ | ⟨_,h3⟩
  ·rw [h] at h3;cases h3
  ·exact ⟨h3,h1⟩
def I64 (n:Int):Value:=.int .i64 n
def inI64 (n:Int):Prop:=-9223372036854775808 ≤ n∧n ≤ 9223372036854775807
def Ints (w:World) (v:Value) (l:List Int):Prop:=Row w v l.length 1 (l.map I64)
theorem Ints.len {w:World} {v:Value} {l:List Int} (h:Ints w v l):∃ a c,v = .slice a l.length c:=h.shape
theorem Ints.le {w:World} {v:Value} {l:List Int} (h:Ints w v l):l.length ≤ 9223372036854775807:=Row.le h
theorem Ints.of_new {w w':World} {v:Value} {l:List Int} (h:Ints w v l) (hg:Below w.heap.size w w'):Ints w' v l:=Row.of_new h hg
theorem Ints.cell {w:World} {v:Value} {l:List Int} (h:Ints w v l) (h0:0 < l.length):∃ b off c,v = .slice (some ⟨b,off,none⟩) l.length c∧b < w.heap.size∧∀ j,j < l.length→w.cell? ⟨b,off + j,none⟩ = some (.int .i64 (l.getD j 0)):=by
 obtain ⟨_,a,c,rfl,_,_,_,h5⟩:=h
 obtain ⟨b,off,rfl,hb,hc⟩:=h5 (by omega)
 refine ⟨b,off,c,rfl,hb,fun j hj=>?_⟩
 rw [hc j (by omega)]
 simp [List.getElem?_map,List.getElem?_eq_getElem hj,List.getD,I64]
theorem infoInt:(Tryz.prog.info? 3).map (fun i=>(i.zero,i.size,i.bytes)) = some (some (.int .i64 0),1,8):=by kernel_rfl
def OwnN (w:World) (base:Nat) (v:Value) (l:List Int):Prop:=w.ownsRow base 3 1 v l.length (l.map I64)
theorem OwnN.nil (w:World) (base:Nat):OwnN w base (.slice none 0 0) []:=World.ownsRow_nil _ _ _ _
theorem OwnN.ints {w:World} {base:Nat} {v:Value} {l:List Int} (h:OwnN w base v l):Ints w v l:=Row.of_owns h
theorem OwnN.lt {w:World} {base:Nat} {v:Value} {l:List Int} (h:OwnN w base v l):∀ k,v.ownBlock = some k→base ≤ k∧k < w.heap.size:=World.ownsRow.lt h
theorem OwnN.block {w:World} {base k:Nat} {v:Value} {l:List Int} (h:OwnN w base v l) (hk:v.ownBlock = some k):∃ cur,w.heap[k]? = some (.cells cur 3 (0,0)):=by
 rcases h.2 with ⟨rfl,_⟩ | ⟨g,cap,cur,rfl,_,hh,_⟩
 ·cases hk
 ·cases hk;exact ⟨cur,hh⟩
theorem OwnN.mono {w:World} {base base':Nat} {v:Value} {l:List Int} (h:OwnN w base v l) (hb:base' ≤ base):OwnN w base' v l:=
 ⟨h.1,h.2.imp id (fun ⟨g,cap,cur,a,b,c⟩=>⟨g,cap,cur,a,Nat.le_trans hb b,c⟩)⟩
theorem OwnN.kept {w w':World} {base:Nat} {v:Value} {l:List Int} (h:OwnN w base v l) (hk:∀ k,v.ownBlock = some k→w'.heap[k]? = w.heap[k]?):OwnN w' base v l:=by
 refine ⟨h.1,?_⟩
 rcases h.2 with h | ⟨g,cap,cur,hv,hb,hh,hr⟩
 ·exact .inl h
 ·exact .inr ⟨g,cap,cur,hv,hb,(hk g (by rw [hv];rfl)).trans hh,hr⟩
theorem OwnN.of_new {w w':World} {base:Nat} {v:Value} {l:List Int} (h:OwnN w base v l) (hb:Below w.heap.size w w'):OwnN w' base v l:=
 h.kept fun k hk=>hb.block _ (h.lt k hk).2
theorem run_appN {w:World} (base ty:Nat) (v:Value) (l:List Int) (hown:OwnN w base v l) (u:Value) (m:List Int) (hm:Ints w u m) (hlen:l.length + m.length ≤ 1099511627776) (hbase:base ≤ w.heap.size) :
  ∃ v' w',(Builtin.append_ #[32,32] ty #[v,u]).run Tryz.prog w = .ok v' w'∧OwnN w' base v' (l ++ m)∧w.grownBy w' v.ownBlock∧(∀ k,v'.ownBlock = some k→v.ownBlock = some k∨w.heap.size ≤ k):=by
 obtain ⟨i,hi,hz,hsize,hby⟩:=info_parts infoInt
 obtain ⟨hl,ad,c,rfl,hc1,hc2,hc3,hc4⟩:=hm
 cases ad with
 | none=>
  have hc0:=hc3 rfl
  have hm0:m = []:=List.eq_nil_of_length_eq_zero (by omega)
  subst hm0
  subst hc0
  refine ⟨v,w,run_append_owned_none (P:=Tryz.prog) (w:=w) base 32 ty 3 i 1 Tryz.underlying32 hi v l.length (l.map I64) hown,by simpa using hown,World.grownBy.refl _ _,fun k hk=>.inl hk⟩
 | some ad=>
  obtain ⟨v',w',h1,h2,h3,_,h5⟩:=run_append_own_at (P:=Tryz.prog) w base 32 ty 3 i _ 1 8 Tryz.underlying32 hi hz hsize hby rfl (by decide) v l.length (l.map I64) hown ad m.length c (m.map I64) (by simp)
   (fun j u hj=>by
    have hjl:j < m.length:=by
     rcases Nat.lt_or_ge j m.length with h | h
     ·exact h
     ·simp [List.getElem?_eq_none (show (m.map I64).length ≤ j by simpa using h)] at hj
    obtain ⟨b,off,hab,_,hcell⟩:=hc4 (by omega)
    cases hab
    have hplain:(⟨b,off,none⟩:Addr).add j = ⟨b,off + j,none⟩:=by unfold Addr.add;split <;> simp_all
    rw [hplain,hcell j (by omega),hj])
   (fun u hu=>by
    obtain ⟨b,_,rfl⟩:=List.mem_map.1 hu
    rfl) (by unfold maxLen;omega) (by omega) hbase
  refine ⟨v',w',h1,?_,h3,?_⟩
  ·unfold OwnN
   simpa using h2
  ·intro k hk
   rcases h5 with h5 | h5
   ·exact .inl (by rw [← h5];exact hk)
   ·rw [h5] at hk;cases hk;exact .inr (Nat.le_refl _)
theorem wp_appN {w:World} {o:Oper} {a:Act} {K:Act→World→Prop} {Q:Exit→Act→World→Prop} (s x:Operand)
  (ho:o.op = .call { callee:=.builtin .append,args:=#[s,x],argTypes:=#[32,32] }) (base:Nat)
  (v:Value) (l:List Int) (hs:a.eval s = v) (hown:OwnN w base v l) (u:Value) (m:List Int) (hx:a.eval x = u) (hm:Ints w u m)
  (hlen:l.length + m.length ≤ 1099511627776) (hbase:base ≤ w.heap.size)
  (h:∀ v' w',OwnN w' base v' (l ++ m)→w.grownBy w' v.ownBlock→(∀ k,v'.ownBlock = some k→v.ownBlock = some k∨w.heap.size ≤ k)→K (a.put o.dst v') w'):o.wp Tryz.prog a w K Q:=by
 obtain ⟨v',w',hr,h2,h3,h4⟩:=run_appN base o.type v l hown u m hm hlen hbase
 unfold Oper.wp execOp
 simp only [ho,resolve,invoke,builtin,Sem.run_bind,Sem.run_pure,Result.andThen_ok,List.map_toArray,List.map_cons,List.map_nil,hs,hx,hr]
 exact h v' w' h2 h3 h4
theorem one_ints (w:World) (x:Int) (t:TypeId):Ints (w.alloc (.cells #[.int .i64 x] t)) (.slice (some ⟨w.heap.size,0,none⟩) 1 1) [x]:=by
 refine ⟨rfl,some ⟨w.heap.size,0,none⟩,1,rfl,Nat.le_refl _,by unfold maxLen;omega,fun h=>(nomatch h),fun _=>⟨_,0,rfl,by simp,fun j hj=>?_⟩⟩
 simp only [List.length_singleton,Nat.mul_one] at hj
 have hj0:j = 0:=by omega
 subst hj0
 exact cell_of_one (heap_alloc_new w _)
end Go.Proofs.YtnohglkilpnjhaaGreatDoor
namespace Go.Proofs.YtnohglkilpnjhaaGreatDoor
open Go.RowKit Go.Sort
set_option maxRecDepth 100000
def cmpI (a b:Int):Int:=if a < b then -1 else if b < a then 1 else 0
def orL (l:List Int):Int:=(l.find? (fun x=>!decide (x = 0))).getD 0
theorem orL_two (a b:Int):orL [a,b] = if a = 0 then b else a:=by
 unfold orL
 by_cases h:a = 0
 ·by_cases h2:b = 0 <;> simp [h,h2]
 ·simp [h]
theorem isNaN_any (x:Int) (w:World):Calls Tryz.prog 157 #[.int .i64 x] w fun e w'=>e = .returned (.bool false)∧w' = w:=by
 have h:((x != x) = false):=by simp
 go_enter Tryz.func157,Tryz.ntmps157
 go_wp2
 go_ret
 exact ⟨by simp,rfl⟩
theorem CmpI_any (a b:Int) (w:World):Calls Tryz.prog 105 #[.int .i64 a,.int .i64 b] w fun e w'=>e = .returned (.int .i64 (cmpI a b))∧w' = w:=by
 have h3:(a < b∧cmpI a b = -1)∨(¬ a < b∧b < a∧cmpI a b = 1)∨(¬ a < b∧¬ b < a∧cmpI a b = 0):=by
  unfold cmpI
  by_cases h1:a < b
  ·simp [h1]
  ·by_cases h2:b < a <;> simp [h1,h2]
 generalize cmpI a b = r at *
 go_enter Tryz.func105,Tryz.ntmps105
 rcases h3 with ⟨h1,rfl⟩ | ⟨h1,h2,rfl⟩ | ⟨h1,h2,rfl⟩
 all_goals
  go_wp2_with (go_at_call 157;refine (isNaN_any _ _).mono ?_;rintro e w' ⟨rfl,rfl⟩)
  go_ret
  exact ⟨rfl,rfl⟩
set_option maxHeartbeats 800000 in
theorem Or_any (v:Value) (l:List Int) (w:World) (hl:Ints w v l):Calls Tryz.prog 136 #[v] w fun e w'=>e = .returned (.int .i64 (orL l))∧w' = w:=by
 obtain ⟨a,c,hv⟩:=hl.len
 subst hv
 have hle:=hl.le
 have HL:=Lib.hid hl
 clear hl
 go_enter Tryz.func136,Tryz.ntmps136
 go_wp2
 go_loopw [5,8] (fun _ iv W=>∃ k:Nat,k ≤ l.length∧iv = .int .i64 (k:Int)∧orL l = orL (l.drop k)∧W = w) (fun _ iv _=>l.length - (intOf iv).toNat)
 case atStart=>exact ⟨0,Nat.zero_le _,rfl,rfl,rfl⟩
 case round=>
  obtain ⟨k,hk,rfl,hm,rfl⟩:=hrel
  by_cases hlt:k < l.length
  ·obtain ⟨b,off,c',hv,hb,hc⟩:=HL.out.cell (by omega)
   obtain ⟨rfl,rfl⟩:a = some ⟨b,off,none⟩∧c = c':=by cases hv;exact ⟨rfl,rfl⟩
   have hck:=hc k hlt
   have hdr:l.drop k = l.getD k 0 :: l.drop (k + 1):=by rw [List.drop_eq_getElem_cons hlt];simp [List.getD,hlt]
   rw [hdr] at hm
   obtain ⟨x,hx⟩:∃ x,l.getD k 0 = x:=⟨_,rfl⟩
   rw [hx] at hck hm
   have hki:(k:Int) < (l.length:Int):=by omega
   have hm2:(x ≠ 0→orL l = x)∧(x = 0→orL l = orL (l.drop (k + 1))):=by
    rw [hm]
    refine ⟨fun h=>by simp [orL,h],fun h=>by simp [orL,h]⟩
   have HM:=Lib.hid hm2
   clear hc hv hdr hx hm hm2
   by_cases h0:x = 0
   ·subst h0
    have t0:((0:Int) != 0) = false:=rfl
    go_wp2
    go_roundw
    case rel=>exact ⟨k + 1,by omega,by go_num,HM.out.2 rfl,trivial⟩
    case measure=>simp [intOf];omega
   ·have t0:(x != 0) = true:=by simp [h0]
    go_wp2
    go_ret
    exact ⟨ret_int (HM.out.1 h0).symm,rfl⟩
  ·rw [List.drop_of_length_le (by omega)] at hm
   have HM:=Lib.hid hm
   have hki:¬ (k:Int) < (l.length:Int):=by omega
   clear hm
   go_wp2
   go_ret
   exact ⟨ret_int (HM.out.trans rfl).symm,rfl⟩
theorem below_eq {P:Program} {f:FuncId} {args:Array Value} {w:World} {v:Value} (h:Calls P f args w fun e w'=>e = .returned v∧w' = w):Calls P f args w fun e w'=>e = .returned v∧Below w.heap.size w w':=h.mono fun e w' ⟨h1,h2⟩=>⟨h1,by rw [h2];exact Below.refl _ _⟩
theorem PeersCmp_any (p q:PeerL) (w:World):Calls Tryz.prog 104 #[RPeer.V p,RPeer.V q] w fun e w'=>e = .returned (.int .i64 (cmpI p.id q.id))∧∃ os,w' = grow w os:=by
 have hC:=fun w'=>CmpI_any p.id q.id w'
 generalize cmpI p.id q.id = r at *
 have HC:=Lib.hid hC
 clear hC
 rw [show RPeer.V p = .agg #[.int .i64 p.id,.int .i64 p.till,.bool p.seed] from rfl,show RPeer.V q = .agg #[.int .i64 q.id,.int .i64 q.till,.bool q.seed] from rfl]
 go_enter Tryz.func104,Tryz.ntmps104
 go_wp2_with (go_at_call 105;refine (HC.out _).mono ?_;rintro e w' ⟨rfl,rfl⟩)
 go_ret
 exact ⟨rfl,_,by rw [alloc_eq_grow,alloc_eq_grow,grow_grow]⟩
theorem two_ints (w:World) (x y:Int) (t:TypeId):Ints (w.alloc (.cells #[.int .i64 x,.int .i64 y] t)) (.slice (some ⟨w.heap.size,0,none⟩) 2 2) [x,y]:=by
 refine ⟨rfl,some ⟨w.heap.size,0,none⟩,2,rfl,Nat.le_refl _,by unfold maxLen;omega,fun h=>(nomatch h),fun _=>⟨_,0,rfl,by simp,fun j hj=>?_⟩⟩
 simp only [World.cell?,heap_alloc_new]
 simp only [List.length_cons,List.length_nil] at hj
 match j,hj with
 | 0,_=>rfl
 | 1,_=>rfl
def firstC (p q:PeerL):Int:=orL [cmpI p.till q.till,cmpI q.id p.id]
theorem firstC_goes (p q:PeerL):decide (firstC p q < 0) = goesP p q:=by
 unfold firstC goesP goesK
 rw [orL_two]
 unfold cmpI
 by_cases h1:p.till < q.till
 ·simp [h1]
 ·by_cases h2:q.till < p.till
  ·have h3:¬ p.till = q.till:=by omega
   simp [h1,h2,h3]
  ·have h3:p.till = q.till:=by omega
   by_cases h4:q.id < p.id
   ·simp [h3,h4]
   ·by_cases h5:p.id < q.id <;> simp [h3,h4,h5]
set_option maxHeartbeats 1600000 in
theorem FirstCmp_any (p q:PeerL) (w:World):Calls Tryz.prog 135 #[RPeer.V p,RPeer.V q] w fun e w'=>e = .returned (.int .i64 (firstC p q))∧Below w.heap.size w w':=by
 unfold firstC
 rw [show RPeer.V p = .agg (RPeer.cells p).toArray from rfl,show RPeer.V q = .agg (RPeer.cells q).toArray from rfl]
 go_enter Tryz.func135,Tryz.ntmps135
 go_upto_region 1 with (fail)
 generalize hW:(w.alloc _).alloc _ = W
 obtain ⟨h0,h1,hb,hs⟩:RPeer.O W w.heap.size p∧RPeer.O W (w.heap.size + 1) q∧Below w.heap.size w W∧W.heap.size = w.heap.size + 2:=by
  subst hW
  refine ⟨(RPeer.o_new w (RPeer_ok p)).of_new ((Below.refl _ _).alloc (Nat.le_refl _) _),?_,((Below.refl _ w).alloc (Nat.le_refl _) _).alloc (by simp) _,by simp⟩
  have:=RPeer.o_new (w.alloc (.cells (RPeer.cells p).toArray 137)) (RPeer_ok q)
  rwa [World.size_alloc] at this
 clear hW
 have p0:=RPeer_id h0
 have p1:=RPeer_till h0
 have q0:=RPeer_id h1
 have q1:=RPeer_till h1
 have HB:=Lib.hid hb
 have HS:=Lib.hid hs
 clear h0 h1 hb hs
 have p0':=fun w' (h:Grew W w')=>Grew.cell h p0
 have p1':=fun w' (h:Grew W w')=>Grew.cell h p1
 have q0':=fun w' (h:Grew W w')=>Grew.cell h q0
 have q1':=fun w' (h:Grew W w')=>Grew.cell h q1
 refine wp_region_grew_tail 10 (by kernel_rfl) (by kernel_rfl) ?_
 simp only [List.take_succ_cons,List.take_zero,List.drop_succ_cons,List.drop_zero]
 repeat (first
  | (go_big_quiet_want;(with_reducible apply quiet_load_at (ty:=31) (x:=.tmp _));rfl;rfl;assumption;go_simp;go_big_quiet_on)
  | (go_big_quiet_want;apply quiet_val;(intro w' hw';go_simp;first | done | rfl);go_simp;go_big_quiet_on)
  | (go_big_quiet_want;apply quiet_call (f:=105);(intro w' hw';go_simp;first | done | rfl);(intro w' hw';exact Grew.call hw' (below_eq (CmpI_any _ _ w')));go_simp;go_big_quiet_on)
  | (go_big_quiet_skip))
 refine wpQuiet_nil ?_
 intro w9 hw9
 have HB9:=Lib.hid (below_next HB.out hw9)
 clear p0 p1 q0 q1 p0' p1' q0' q1' hw9
 go_wp2_with (first | (go_at_call 136;refine (Or_any _ [cmpI p.till q.till,cmpI q.id p.id] _ (two_ints w9 _ _ _)).mono ?_;rintro e w' ⟨rfl,rfl⟩))
 go_ret
 exact ⟨rfl,HB9.out.alloc (by have:=HB9.out.size;omega) _⟩
end Go.Proofs.YtnohglkilpnjhaaGreatDoor
namespace Go.Proofs.YtnohglkilpnjhaaGreatDoor
open Go.RowKit
set_option maxRecDepth 100000
theorem run_loadBytes {P:Program} {w:World} (b:Nat):∀ (l:List UInt8) (off:Nat) (acc:List UInt8),(∀ j,j < l.length→w.cell? ⟨b,off + j,none⟩ = some (B8 (l.getD j 0))) →
  (Extern.Bytes.loadBytes ⟨b,off,none⟩ l.length ⟨acc.toArray⟩).run P w = .ok ⟨(acc ++ l).toArray⟩ w:=by
 intro l
 induction l with
 | nil=>intro off acc _;simp [Extern.Bytes.loadBytes,Sem.run_pure]
 | cons x l ih=>
  intro off acc h
  have h0:=h 0 (by simp)
  simp only [Nat.add_zero,List.getD_cons_zero,B8] at h0
  have hl:(load ⟨b,off,none⟩).run P w = .ok (.int .u8 (x.toNat:Int)) w:=by simp [load,Sem.run,h0]
  simp only [List.length_cons,Extern.Bytes.loadBytes,Sem.run_bind,hl,Result.andThen_ok]
  have hp:(⟨acc.toArray⟩:ByteArray).push ((x.toNat:Int).toNat.toUInt8) = ⟨(acc ++ [x]).toArray⟩:=by
   simp [ByteArray.push]
  have ha:(⟨b,off,none⟩:Addr).add 1 = ⟨b,off + 1,none⟩:=rfl
  rw [hp,ha,ih (off + 1) (acc ++ [x]) (fun j hj=>by
   have:=h (j + 1) (by simp;omega)
   rw [List.getD_cons_succ] at this
   rw [← this,Nat.add_assoc,Nat.add_comm 1 j])]
  simp
theorem run_bytesOf {P:Program} {w:World} {v:Value} {l:List UInt8} (h:Bytes w v l):(Extern.Bytes.bytesOf v).run P w = .ok ⟨l.toArray⟩ w:=by
 by_cases h0:0 < l.length
 ·obtain ⟨b,off,c,rfl,hb,hc⟩:=h.cell h0
  have:=run_loadBytes (P:=P) (w:=w) b l off [] hc
  rw [List.nil_append] at this
  exact this
 ·obtain rfl:l = []:=List.eq_nil_of_length_eq_zero (by omega)
  obtain ⟨a,c,rfl⟩:=h.len
  cases a <;> rfl
theorem run_bytealg (va vb:Value) (a b:List UInt8) (w:World) (ha:Bytes w va a) (hb:Bytes w vb b) (h:a.length = b.length) :
  (callFunc 183 #[va,vb]).run Tryz.prog w = .ok (.value (.int .i64 (cmpL a b))) w:=by
 rw [run_callFunc_extern (e:=Extern.BytealgCompare.compare) Tryz.func183 (by kernel_rfl) (by kernel_rfl) (by kernel_rfl) (by kernel_rfl)]
 change (Sem.run Tryz.prog (do pure (goInt (Extern.BytealgCompare.cmp (← Extern.Bytes.bytesOf va) (← Extern.Bytes.bytesOf vb)))) w).andThen _ = _
 simp only [Sem.run_bind,run_bytesOf ha,run_bytesOf hb,Result.andThen_ok,Sem.run_pure,cmp_cmpL a b h]
 rfl
theorem octs_pair (w:World) (t:Nat) (xs ys:List UInt8) (A B:Array Value) (hA:A = (xs.map B8).toArray) (hB:B = (ys.map B8).toArray) :
  Octs ((w.alloc (.cells A t)).alloc (.cells B t)) w.heap.size t xs∧Octs ((w.alloc (.cells A t)).alloc (.cells B t)) (w.heap.size + 1) t ys∧Below w.heap.size w ((w.alloc (.cells A t)).alloc (.cells B t)) ∧
   w.heap.size + 2 = ((w.alloc (.cells A t)).alloc (.cells B t)).heap.size:=by
 subst hA
 subst hB
 refine ⟨(Below.heap_alloc _ _ _ (by simp)).trans (heap_alloc_new w _),?_,((Below.refl _ w).alloc (Nat.le_refl _) _).alloc (by simp) _,by simp⟩
 have:=heap_alloc_new (w.alloc (.cells (xs.map B8).toArray t)) (.cells (ys.map B8).toArray t)
 rw [World.size_alloc] at this
 exact this
theorem Octs.lt2 {w:World} {g t:Nat} {bs:List UInt8} (h:Octs w g t bs):g < w.heap.size:=(Array.getElem?_eq_some_iff.1 h).1
theorem Octs.bytes {w:World} {g t:Nat} {bs:List UInt8} (h:Octs w g t bs) (hl:bs.length ≤ 1000):Bytes w (.slice (some ⟨g,0,none⟩) bs.length bs.length) bs:=by
 refine ⟨by simp,_,_,rfl,Nat.le_refl _,by unfold maxLen;omega,(fun h=>by cases h),fun _=>⟨g,0,rfl,h.lt2,fun j hj=>?_⟩⟩
 rw [Nat.zero_add,h.cell (by omega)]
 simp [List.getElem?_eq_getElem (show j < bs.length by omega),List.getD_eq_getElem?_getD]
theorem BCompare_any (va vb:Value) (a b:List UInt8) (w:World) (ha:Bytes w va a) (hb:Bytes w vb b) (h:a.length = b.length) :
  Calls Tryz.prog 170 #[va,vb] w fun e w'=>e = .returned (.int .i64 (cmpL a b))∧w = w':=by
 have hc:=run_bytealg va vb a b w ha hb h
 have H:=Lib.hid h
 clear h
 go_enter Tryz.func170,Tryz.ntmps170
 go_wp2
 go_ret
 exact ⟨rfl,rfl⟩
theorem same_quietC {P:Program} {f:FuncId} {args:Array Value} {w:World} {n:Nat} {v:Value} (h:Calls P f args (w.drewN n) fun e w'=>e = .returned v∧w.drewN n = w') :
  Calls P f args (w.drewN n) fun e w''=>e = .returned v∧∃ m,w'' = w.drewN m:=h.mono fun _ _ ⟨he,hm⟩=>⟨he,n,hm.symm⟩
set_option maxHeartbeats 800000 in
theorem CompareG_any (a b:List UInt8) (w:World) (ha:a.length = 32) (hb:b.length = 32) :
  Calls Tryz.prog 141 #[.agg (a.map B8).toArray,.agg (b.map B8).toArray] w fun e w'=>e = .returned (.int .i64 (cmpL a b))∧∃ q os,w' = Sort.grow (w.drewN q) os:=by
 have HA:=Lib.hid ha
 have HB:=Lib.hid hb
 clear ha hb
 go_enter Tryz.func141,Tryz.ntmps141
 go_wp2
 generalize hW1:(w.alloc _).alloc _ = W1
 obtain ⟨hX,hY,hz1,os1,hg1⟩:Octs W1 w.heap.size 31 a∧Octs W1 (w.heap.size + 1) 31 b∧w.heap.size + 2 = W1.heap.size∧∃ os,W1 = Sort.grow w os:=by
  obtain ⟨h1,h2,h3,h4⟩:=octs_pair w 31 a b _ _ rfl rfl
  subst hW1;exact ⟨h1,h2,h4,_,by rw [Sort.alloc_eq_grow,Sort.alloc_eq_grow,Sort.grow_grow]⟩
 clear hW1
 have hx:=hX.bytes (by rw [HA.out];decide)
 have hy:=hY.bytes (by rw [HB.out];decide)
 rw [HA.out] at hx
 rw [HB.out] at hy
 have HX:=fun n=>Lib.hid (hx.of_new (below_drewn n))
 have HY:=fun n=>Lib.hid (hy.of_new (below_drewn n))
 have HG1:=Lib.hid hg1
 clear hx hy hX hY hg1
 go_quiet ((go_at_call 170;exact same_quietC (BCompare_any _ _ a b _ (HX _).out (HY _).out (HA.out.trans HB.out.symm))))
 go_wp2
 go_ret
 exact ⟨rfl,_,os1,by rw [HG1.out];rfl⟩
theorem grow_below (w:World) (q:Nat) (os:Array Obj):Below w.heap.size w (Sort.grow (w.drewN q) os):=⟨rfl,rfl,rfl,by simp,fun k hk=>by
 show (w.heap ++ os)[k]? = _
 rw [Array.getElem?_append_left hk]⟩
theorem Compare_any (a b:List UInt8) (w:World) (ha:a.length = 32) (hb:b.length = 32) :
  Calls Tryz.prog 141 #[.agg (a.map B8).toArray,.agg (b.map B8).toArray] w fun e w'=>e = .returned (.int .i64 (cmpL a b))∧Below w.heap.size w w':=
 (CompareG_any a b w ha hb).mono fun e w' ⟨h1,q,os,h2⟩=>⟨h1,by rw [h2];exact grow_below w q os⟩
end Go.Proofs.YtnohglkilpnjhaaGreatDoor
namespace Go.Proofs.YtnohglkilpnjhaaGreatDoor
open Go.RowKit
def Fresh (O G:Nat→Prop) (W:World):Prop:=∀ k,G k→W.heap.size ≤ k∨O k
def SeqT {α:Type} (F:Fence) (n:Nat) (P:Program) (f:Nat) (lb:Array Value) (encs:α→Array Value) (It:List α→α→World→Prop) (S:List α→Prop) (O:Nat→Prop) (n0 N:Nat) (W:World):Prop:=
 ∀ (l:Nat) (J:(Nat→Prop)→List α→World→Prop),(∀ G,Fresh O G W→AbidesC G (J G)) →
  (∀ G pre x W1,Fresh O G W→(∀ k,G k→k < W1.heap.size)→J G pre W1→It pre x W1→pre.length < N→YieldAt F (n - 1) P l (encs x) W1 fun e W'=>
   e = .returned (.bool true)∧J G (pre ++ [x]) W'∧Kept (fun k=>G k∨k < n0) W1 W') →
  (∀ G W',Fresh O G W→Below W.heap.size W W'→J G [] W') →
  CallsIn F n P f (#[.func (.yield l) #[] #[]] ++ lb) W fun e W'=>(∃ v,e = .returned v)∧∃ G xs,Fresh O G W∧S xs∧J G xs W'
def postT (B n0:Nat) (G:Nat→Prop) (I:World→Prop) (W:World):Exit→Act→World→Prop
 | .normal,_,W'=>Kept (fun k=>G k∨k < n0∨k = B∨k = B + 1) W W'∧I W'
 | _,_,_=>False
variable {F:Fence} {n:Nat} {P:Program}
theorem wpIn_rangeFunc_total {α:Type} {g:Operand} {ps:Array Tmp} {assign body:Code} {Q:Exit→Act→World→Prop} {a:Act} {w:World}
  (hro:F.round = none) (h1:1 ≤ n) {gf:Nat} {lb:Array Value} (hg:a.eval g = .func (.func gf) #[] lb) (hFg:F.fn gf) (eg:∀ args w,(callFunc gf args).run P w = .ok (.enter gf args) w)
  {encs:α→Array Value} {It:List α→α→World→Prop} {S:List α→Prop} {O:Nat→Prop} {n0 N:Nat} (hn0:n0 ≤ w.heap.size) (hO:∀ k,O k→k < w.heap.size)
  (hseq:∀ W1,Below w.heap.size w W1→W1.heap.size = w.heap.size + 2→SeqT F (n - 1) P gf lb encs It S O n0 N W1)
  (hps:∀ x,(encs x).size = ps.size)
  (I:(Nat→Prop)→List α→World→Prop)
  (hI:∀ G s A B,(∀ k,G k→w.heap.size + 2 ≤ k∨O k)→I G s A→Kept (fun k=>¬ G k∧k ≠ w.heap.size + 1) A B→I G s B)
  (hIt:∀ pre x A B,It pre x A→Kept (fun k=>k ≠ w.heap.size + 1) A B→It pre x B)
  (h0:∀ G W',(∀ k,G k→w.heap.size + 2 ≤ k∨O k)→Below w.heap.size w W'→I G [] W') (Gx:α→Act→World→Prop) (hG:∀ x a A B,Gx x a A→Kept (fun k=>k ≠ w.heap.size + 1) A B→Gx x a B)
  (hassign:∀ (l:Nat) (pre:List α) (x:α) (W:World) (K:Act→World→Prop),It pre x W→w.heap.size + 2 ≤ W.heap.size→(∀ a' W2,Below W.heap.size W W2→Gx x a' W2→K a' W2) →
   assign.wpIn (F.inRound l) (n - 1 - 1) P (Exit.then K (fun _ _ _=>False)) { tmps:=(ps.zip (encs x)).foldl (fun t (p,v)=>t.setIfInBounds p v) a.tmps,defers:=[] } W)
  (hbody:∀ (l:Nat) (G:Nat→Prop) (pre:List α) (x:α) (a':Act) (W:World),(∀ k,G k→w.heap.size + 2 ≤ k∨O k)→(∀ k,G k→k < W.heap.size)→I G pre W→It pre x W→Gx x a' W→pre.length < N→w.heap.size + 2 ≤ W.heap.size →
   body.wpIn (F.inRound l) (n - 1 - 1) P (postT w.heap.size n0 G (I G (pre ++ [x])) W) a' W)
  (hdone:∀ (G:Nat→Prop) (xs:List α) (W:World),S xs→I G xs W→w.heap.size + 2 ≤ W.heap.size→W.heap[w.heap.size]? = some (.deferred (some []))→Q .normal { a with defers:={ target:=.collected w.heap.size,args:=#[] } :: a.defers } W) :
  (Code.rangeFunc g ps assign body).wpIn F n P Q a w:=by
 refine wpIn_rangeFunc ?_
 intro fn hfn
 rw [hro]
 obtain ⟨rec,hrec⟩:∃ rec:LoopState→Option Code→Loop,rec = fun st pe=>{ state:=st,pending:=pe,fn,tmps:=a.tmps,params:=ps,assign,body,defers:=w.heap.size }:=⟨_,rfl⟩
 obtain ⟨W1,hW1⟩:∃ W1,(w.alloc (.deferred (some []))).alloc (.loop (rec .ready none)) = W1:=⟨_,rfl⟩
 have hL1:W1.heap[w.heap.size + 1]? = some (.loop (rec .ready none)):=by
  rw [← hW1];have:=World.alloc_heap_new (w.alloc (.deferred (some []))) (.loop (rec .ready none));rwa [World.size_alloc] at this
 have hK1:W1.heap[w.heap.size]? = some (.deferred (some [])):=by
  rw [← hW1];exact (Below.heap_alloc _ _ _ (by simp)).trans (World.alloc_heap_new w _)
 have hb1:Below w.heap.size w W1:=by
  rw [← hW1];exact ((Below.refl _ w).alloc (Nat.le_refl _) _).alloc (by simp) _
 have hs1:W1.heap.size = w.heap.size + 2:=by rw [← hW1];simp
 refine ⟨w.heap.size + 1,[{ target:=.collected w.heap.size,args:=#[] }],W1,{ target:=.fn (.func gf) lb,args:=#[.func (.yield (w.heap.size + 1)) #[] #[]] },W1,gf,
  #[.func (.yield (w.heap.size + 1)) #[] #[]] ++ lb,W1,?_,?_,?_,?_,fun _=>h1,?_⟩
 ·rw [← hW1,hrec];exact run_enterLoop_outer _ _ _ _ _
 ·simp only [resolve,hg]
  simp [go_sem]
 ·intro f' hf';simp [Target.leads] at hf';subst hf';exact hFg
 ·simp [invoke,go_sem,eg]
 ·have put:∀ (U:Nat→Prop) (W:World) (o:Obj),¬ U (w.heap.size + 1)→Kept U W (W.putObj (w.heap.size + 1) o):=fun U W o h=>(Kept.refl U W).putObj h o
  have fr:∀ G,Fresh O G W1→∀ k,G k→w.heap.size + 2 ≤ k∨O k:=fun G h k hk=>(h k hk).imp (fun q=>by omega) id
  have fx:∀ G,Fresh O G W1→¬ G w.heap.size∧¬ G (w.heap.size + 1):=fun G h=>⟨fun q=>by rcases h _ q with h | h;(have:=hs1;omega);(have:=hO _ h;omega),fun q=>by rcases h _ q with h | h;(have:=hs1;omega);(have:=hO _ h;omega)⟩
  have kl:∀ {G:Nat→Prop} {A B:World} {o:Obj},Fresh O G W1→A.heap[w.heap.size + 1]? = some o→Kept (fun k=>¬ G k) A B→B.heap[w.heap.size + 1]? = some o:=fun hf hl hk=>(hk.block _ (Array.getElem?_eq_some_iff.1 hl).1 (fx _ hf).2).trans hl
  have kd:∀ {G:Nat→Prop} {A B:World} {o:Obj},Fresh O G W1→A.heap[w.heap.size]? = some o→Kept (fun k=>¬ G k) A B→B.heap[w.heap.size]? = some o:=fun hf hl hk=>(hk.block _ (Array.getElem?_eq_some_iff.1 hl).1 (fx _ hf).1).trans hl
  refine (hseq W1 hb1 hs1 (w.heap.size + 1)
   (fun G pre W=>I G pre W∧W.heap[w.heap.size + 1]? = some (.loop (rec .ready none))∧W.heap[w.heap.size]? = some (.deferred (some [])))
   (fun G hf s A B hs hk=>⟨hI G s A B (fr G hf) hs.1 (hk.mono fun _ _ h=>h.1),kl hf hs.2.1 hk,kd hf hs.2.2 hk⟩)
   ?_ (fun G W' hf hb=>⟨h0 G W' (fr G hf) (hb1.trans (hb.mono (by omega))),(hb.block _ (by omega)).trans hL1,(hb.block _ (by omega)).trans hK1⟩)).mono ?_
  ·
   rintro G pre x W hf hGl ⟨hi,hl,hk⟩ hit hlen
   have hG2:=fr G hf
   have hlt:w.heap.size + 1 < W.heap.size:=(Array.getElem?_eq_some_iff.1 hl).1
   have hy:=run_yield (P:=P) (args:=encs x) hl (by rw [hrec];exact hps x)
   rw [hrec] at hy
   refine ⟨fn,_,assign,body,hy,roundIn_of_wpIn hfn (hassign _ pre x W _ hit (by omega) fun a' W0 hb0 hg0=>?_)⟩
   have hk0:∀ (V:Nat→Prop),Kept V W W0:=fun V=>(Kept.refl V W).below hb0
   have hl0:=(hb0.block _ hlt).trans hl
   have hd0:=(hb0.block w.heap.size (by omega)).trans hk
   have hlt0:w.heap.size + 1 < W0.heap.size:=Nat.lt_of_lt_of_le hlt hb0.size
   refine ⟨_,run_beginRound hl0 (by rw [hrec]),?_⟩
   have hl2:(W0.putObj (w.heap.size + 1) (.loop { rec .ready none with state:=.busy })).heap[w.heap.size + 1]? = some (.loop { rec .ready none with state:=.busy }):=World.putObj_heap_same hlt0
   have hk2:(W0.putObj (w.heap.size + 1) (.loop { rec .ready none with state:=.busy })).heap[w.heap.size]? = some (.deferred (some [])):=(World.putObj_heap_other (by omega)).trans hd0
   have hno:∀ k,G k→k ≠ w.heap.size + 1:=fun k h e=>(fx _ hf).2 (e ▸ h)
   refine wpIn_mono (hbody _ G pre x a' _ hG2 (fun k h=>by have:=hGl k h;have:=hb0.size;simp;omega) (hI _ _ _ _ hG2 (hI _ _ _ _ hG2 hi (hk0 _)) (put _ _ _ (fun h=>h.2 rfl))) (hIt _ _ _ _ (hIt _ _ _ _ hit (hk0 _)) (put _ _ _ (fun h=>h rfl))) (hG _ _ _ _ hg0 (put _ _ _ (fun h=>h rfl))) hlen (by simp;omega)) ?_
   have hsz2:(W0.putObj (w.heap.size + 1) (.loop { rec .ready none with state:=.busy })).heap.size = W0.heap.size:=by simp
   rintro e a3 W3 hp
   cases e with
   | normal=>
    obtain ⟨hk3,hi3⟩:=hp
    have hl3:=(hk3.block (w.heap.size + 1) (by rw [hsz2];exact hlt0) (.inr (.inr (.inr rfl)))).trans hl2
    have hd3:=(hk3.block w.heap.size (by rw [hsz2];omega) (.inr (.inr (.inl rfl)))).trans hk2
    have hr:=run_endRound (P:=P) none hl3
    rw [hrec] at hr
    have hl4:(W3.putObj (w.heap.size + 1) (.loop (rec .ready none))).heap[w.heap.size + 1]? = some (.loop (rec .ready none)):=World.putObj_heap_same (Array.getElem?_eq_some_iff.1 hl3).1
    have hd4:(W3.putObj (w.heap.size + 1) (.loop (rec .ready none))).heap[w.heap.size]? = some (.deferred (some [])):=(World.putObj_heap_other (by omega)).trans hd3
    rw [hrec] at hl4 hd4
    have hU2:¬ (G (w.heap.size + 1)∨w.heap.size + 1 < n0):=by
     rintro (h | h)
     ·exact hno _ h rfl
     ·omega
    rw [hrec]
    exact ⟨_,_,hr,rfl,⟨hI _ _ _ _ hG2 hi3 (put _ _ _ (fun h=>h.2 rfl)),hl4,hd4⟩,
     (((hk0 _).trans (put _ W0 _ hU2)).trans (by rw [hrec] at hk3;exact hk3.mono fun _ _ h=>h.elim .inl (fun h=>.inr (.inl h)))).trans (put _ _ _ hU2)⟩
   | ret=>exact hp.elim
   | exit id=>exact hp.elim
   | goto t=>exact hp.elim
   | panic ch=>exact hp.elim
   | outgrown=>exact hp.elim
  ·
   rintro e W2 ⟨⟨v,rfl⟩,G,xs,hf,hS,hi,hl,hk⟩
   have hlt:=(Array.getElem?_eq_some_iff.1 hl).1
   exact ⟨none,_,by have:=run_endLoop (P:=P) hl (by rw [hrec];simp);rw [hrec] at this;exact this,hdone G xs _ hS (hI _ _ _ _ (fr G hf) hi (put _ _ _ (fun h=>h.2 rfl))) (by simp;omega) ((World.putObj_heap_other (by omega)).trans hk)⟩
end Go.Proofs.YtnohglkilpnjhaaGreatDoor
namespace Go.Proofs.YtnohglkilpnjhaaGreatDoor
open Go.RowKit Go.Shelf
attribute [local go_sem] Oper.semAt_some
set_option maxRecDepth 100000
theorem Values_any (m:Value) (w:World) (hm:(∃ b,m = .map (some b))∨m = .map none) :
  Calls Tryz.prog 103 #[m] w fun e w'=>e = .returned (.func (.func 156) #[] #[.pointer (some ⟨w.heap.size,0,none⟩)])∧w' = w.alloc (.cells #[m] 168):=by
 rcases hm with ⟨b,rfl⟩ | rfl
 all_goals
  go_enter Tryz.func103,Tryz.ntmps103
  go_wp2
  go_ret
  exact ⟨rfl,rfl⟩
abbrev encVal (x:Int × Value):Array Value:=#[x.2]
def ValI (w0 W:World) (bb:Nat) (m:Value) (L:List (Int × Value)) (J:List (Int × Value)→World→Prop) (k:Nat) (wr:World):Prop:=
 ∃ pre todo:List (Int × Value),IterV KInt wr m W.heap.size L todo∧(pre ++ todo).Perm L∧One wr bb m 168∧Below w0.heap.size w0 wr∧W.heap.size + 1 ≤ wr.heap.size∧J pre wr∧todo.length ≤ k
set_option maxHeartbeats 3200000 in
theorem values_seq (n:Nat) (hn:1 ≤ n) (bb n0:Nat) (m:Value) (L:List (Int × Value)) (W w0:World) (hw0:w0.heap.size = n0) (hb0:Below n0 w0 W) (hbb:n0 ≤ bb) (hc:One W bb m 168) (hm:MapV KInt w0 m L) (hL:∀ x ∈ L,∃ p,x = inE p) :
  SeqT Fence.wide n Tryz.prog 156 #[.pointer (some ⟨bb,0,none⟩)] encVal (fun pre x W'=>x ∈ L) (fun xs=>xs.Perm L) (fun j=>j = bb) n0 L.length W:=fun l J hJ hY h0=>by
 subst hw0
 obtain ⟨G,hG⟩:∃ G:Nat→Prop,G = fun j=>j = bb∨j = W.heap.size:=⟨_,rfl⟩
 have hGF:Fresh (fun j=>j = bb) G W:=fun j hj=>by
  rw [hG] at hj
  rcases hj with h | h
  ·exact .inr h
  ·exact .inl (by omega)
 have hJG:=hJ G hGF
 have hYG:=fun pre x W1=>hY G pre x W1 hGF
 have h0G:=fun W'=>h0 G W' hGF
 have hG1:G bb:=by rw [hG];exact .inl rfl
 have hG3:G W.heap.size:=by rw [hG];exact .inr rfl
 have HG2:=Lib.hid (show ∀ j,G j→j = bb∨j = W.heap.size from fun j hj=>by rw [hG] at hj;exact hj)
 clear hJ hY h0
 refine (CallsIn.mono (R:=fun e W'=>(∃ v,e = .returned v)∧∃ xs,xs.Perm L∧J G xs W') ?_ (fun e W' h=>⟨h.1,G,by obtain ⟨_,xs,h1,h2⟩:=h;exact ⟨xs,hGF,h1,h2⟩⟩))
 clear hGF hG
 have hmb:∀ b,m = .map (some b)→b < w0.heap.size:=fun b e=>by
  rcases hm with ⟨b',rfl,h⟩ | ⟨rfl,_⟩
  ·cases e;exact h.lt
  ·cases e
 have HMB:=Lib.hid hmb
 have hcc:=hc.cell
 have hcf:=hc.free
 obtain ⟨w1,hr1,hit1,hb1,hs1⟩:=(hm.below (Nat.le_refl _) hb0).range (t:=168) Tryz.underlying168
 have hbbW:=hc.lt
 have HIT:=Lib.hid hit1
 have HB1:=Lib.hid hb1
 have HC1:=Lib.hid (hc.of_new hb1)
 have HB0:=Lib.hid (hb0.trans (hb1.mono (by have:=hc.lt;have:=hb0.size;omega)))
 have HJ0:=Lib.hid (h0G w1 hb1)
 have HS1:=Lib.hid hs1
 have HL:=Lib.hid hL
 have hm2:(∃ b,m = .map (some b))∨m = .map none:=hm.imp (fun ⟨b,e,_⟩=>⟨b,e⟩) And.left
 have HM2:=Lib.hid hm2
 clear hmb hb0 hc hm h0G hit1 hb1 hL hm2
 refine callsIn_of_wp Tryz.func156 rfl trivial ?_ rfl
 simp only [Tryz.ntmps156,List.size_toArray,List.length_cons,List.length_nil,Nat.reduceAdd,Nat.reduceSub,Array.replicate_succ,Array.replicate_zero,List.push_toArray,List.append_toArray,List.nil_append,List.cons_append]
 gi_wp2
 gi_loopg [4,7,8,9,10,11,12,13,14] L.length (fun k _ _ _ _ _ _ _ _ _ wr=>ValI w0 W bb m L (J G) k wr)
 case atStart=>exact ⟨[],L,HIT.out,List.Perm.refl _,HC1.out,HB0.out,by rw [HS1.out];exact Nat.le_refl _,HJ0.out,Nat.le_refl _⟩
 case round=>
  obtain ⟨pre,todo,hit,hp,ho,hb,hsz,hj,hlen⟩:=hrel
  have HO:=Lib.hid ho
  have HB:=Lib.hid hb
  have HP:=Lib.hid hp
  rcases hit.next2 0 with ⟨rfl,hnx⟩ | ⟨p,w2,todo2,hpt,hpl,hnx,hit2,hg2,hs2,hen,htl,hst⟩
  ·clear ho hb hp hit
   gi_wp2
   go_end0
   exact ⟨⟨_,rfl⟩,pre,by have:=HP.out;rwa [List.append_nil] at this,hj⟩
  ·obtain ⟨q,rfl⟩:=HL.out p hpl
   replace hnx:(Instr.next (.pointer (some ⟨W.heap.size,0,none⟩)) false 0).run Tryz.prog wr = .ok (.tuple #[.bool true,.int .i64 q.id,RPeer.V q]) w2:=hnx
   replace hen:(Instr.entry (.pointer (some ⟨W.heap.size,0,none⟩))).run Tryz.prog w2 = .ok (.tuple #[.int .i64 q.id,RPeer.V q]) w2:=hen
   have HIN:=Lib.hid hpl
   have HPT:=Lib.hid htl
   have HST:=Lib.hid (hst pre hp)
   have HLEN:=Lib.hid (show pre.length < L.length by have h1:=hp.length_eq;rw [List.length_append] at h1;have:=List.length_pos_of_mem hpt;omega)
   have HIT2:=Lib.hid hit2
   have HG2':=Lib.hid hg2
   have HJ:=Lib.hid hj
   have HLE:=Lib.hid hlen
   have HS2:=Lib.hid hs2
   clear ho hb hp hit hpt hpl hit2 hg2 hj hlen HP hs2 htl hst
   gi_wp2_with (first
    | ((with_reducible refine wpListIn_one (o:=⟨some 4,Op.alloc _,_,_,_,_⟩) rfl (fun c hc=>by cases hc) ?_);(refine RPeer.wp_alloc rfl fun w3 ho3 hb3 hs3=>?_);have HO3:=Lib.hid ho3;have HB3:=Lib.hid hb3;clear ho3 hb3 hs3)
    | ((with_reducible refine wpListIn_one (o:=⟨none,Op.store _ (.tmp 4) (.tmp 10),_,_,_,_⟩) rfl (fun c hc=>by cases hc) ?_);(refine HO3.out.store (.tmp 4) (.tmp 10) rfl rfl rfl (RPeer_ok q) fun w4 ho4 hg4 hs4=>?_);have HB4:=Lib.hid (HB3.out.grown hg4 (by have:=HB3.out.size;omega) (fun k e=>by cases e;exact Nat.le_refl _));have HO4:=Lib.hid ho4;clear ho4 hg4 hs4)
    | ((with_reducible refine wpListIn_one (o:=⟨some 12,Op.load _ _,_,_,_,_⟩) rfl (fun c hc=>by cases hc) ?_);(refine HO4.out.at_.wp rfl rfl ?_);have hB24:=HB4.out;have hsz4:=hB24.size;have hS2:=HS2.out;have hk4:Kept (fun k=>¬ G k) wr w4:=((Kept.refl _ wr).grown HG2'.out (fun r e=>by cases e;exact fun h=>h hG3)).below hB24;have hit4:IterV KInt w4 m W.heap.size L todo2:=HIT2.out.kept ((Kept.refl (fun _=>True) w2).below hB24) trivial (fun _ _=>trivial);have ho4:One w4 bb m 168:=(HO.out.of_block (HG2'.out.block _ HO.out.lt (fun e=>by cases e;omega))).of_new hB24;have hb4:Below w0.heap.size w0 w4:=(HB.out.grown HG2'.out (by have:=HB.out.size;omega) (fun k e=>by cases e;have:=HB0.out.size;have:=HC1.out.lt;omega)).trans (hB24.mono (by have:=HB.out.size;omega));obtain ⟨fn,tmps,assign,body,hy,hR⟩:=hYG pre (inE q) w4 (fun j hj=>by rcases HG2.out j hj with h | h <;> (subst h;first | exact ho4.lt | omega)) (hJG _ _ _ HJ.out hk4) HIN.out HLEN.out;have HIT4:=Lib.hid hit4;have HO4':=Lib.hid ho4;have HB4':=Lib.hid hb4;clear hk4 hit4 ho4 hb4 hB24;dsimp only [encVal,inE] at hy))
   refine hR.mono ?_
   rintro e W3 ⟨rfl,hJ3,hk3⟩
   have HJ3:=Lib.hid hJ3
   have hit3:=HIT4.out.kept hk3 (.inl hG3) (fun b e=>.inr (HMB.out b e))
   have ho3:=HO4'.out.of_block (hk3.block _ HO4'.out.lt (.inl hG1))
   have hb3:Below w0.heap.size w0 W3:=hk3.to_below HB4'.out (by have:=HB4'.out.size;omega) (fun k hk=>.inr hk)
   have hs3:=hk3.size
   gi_wp2
   gi_roundg todo2.length
   case measure=>have:=HPT.out;have:=HLE.out;omega
   case rel=>
    have q1:=HS2.out
    have q2:=HB4.out.size
    exact ⟨pre ++ [inE q],_,hit3,HST.out,ho3,hb3,by omega,HJ3.out,Nat.le_refl _⟩
end Go.Proofs.YtnohglkilpnjhaaGreatDoor
namespace Go.Proofs.YtnohglkilpnjhaaGreatDoor
open Go.RowKit Go.Shelf
attribute [local go_sem] Oper.semAt_some
set_option maxRecDepth 100000
def CollPI (w:World) (n0:Nat) (G:Nat→Prop) (pre:List (Int × Value)) (W:World):Prop:=
 ∃ ov ps,pre = ps.map inE∧One W w.heap.size ov 71∧RPeer.Own W (w.heap.size + 3) ov ps∧(∀ k,ov.ownBlock = some k→¬ G k)∧Below n0 w W∧w.heap.size + 1 ≤ W.heap.size
def CollPG (w:World) (tm:Value→Value→Array Value) (x:Int × Value) (a:Act) (W:World):Prop:=
 ∃ g q,x = inE q∧w.heap.size + 3 ≤ g∧RPeer.O W g q∧a = { tmps:=tm (.pointer (some ⟨g,0,none⟩)) (RPeer.V q),defers:=[] }
set_option maxHeartbeats 3200000 in
theorem AppendSeqP_any (gf:Nat) (lb:Array Value) (L:List (Int × Value)) (n0:Nat) (O:Nat→Prop) (w:World) (hLx:∀ x ∈ L,∃ q,x = inE q) (hL:L.length ≤ 1048576) (hn0:n0 ≤ w.heap.size) (hO:∀ k,O k→n0 ≤ k∧k < w.heap.size)
  (eg:∀ args w,(callFunc gf args).run Tryz.prog w = .ok (.enter gf args) w)
  (hseq:∀ W1,Below w.heap.size w W1→w.heap.size ≤ W1.heap.size→SeqT Fence.wide 4 Tryz.prog gf lb (fun x:Int × Value=>#[x.2]) (fun pre x _=>x ∈ L) (fun xs=>xs.Perm L) O n0 L.length W1) :
  Calls Tryz.prog 168 #[.slice none 0 0,.func (.func gf) #[] lb] w fun e w'=>∃ v ps,e = .returned v∧(ps.map inE).Perm L∧RPeer.Own w' w.heap.size v ps∧Below n0 w w':=by
 refine (callsIn_wide (n:=5)).1 ?_
 refine callsIn_of_wp_marks Tryz.func168 rfl trivial ?_ rfl
 simp only [Tryz.ntmps168,List.size_toArray,List.length_cons,List.length_nil,Nat.reduceAdd,Nat.reduceSub,Array.replicate_succ,Array.replicate_zero,List.push_toArray,List.append_toArray,List.nil_append,List.cons_append]
 gi_wp2
 generalize hW0:w.alloc _ = W0
 obtain ⟨hsz,hB0,o1⟩:W0.heap.size = w.heap.size + 1∧Below w.heap.size w W0∧One W0 w.heap.size (.slice none 0 0) 71:=by
  subst hW0
  exact ⟨by simp,(Below.refl _ w).alloc (Nat.le_refl _) _,heap_alloc_new _ _⟩
 clear hW0
 refine wpIn_rangeFunc_total (F:=Fence.wide) (n:=5) rfl (by omega) (gf:=gf) (lb:=lb) rfl trivial eg (encs:=fun x:Int × Value=>#[x.2]) (It:=fun pre x _=>x ∈ L) (S:=fun xs=>xs.Perm L) (O:=O) (n0:=n0) (N:=L.length) (by omega) (fun k h=>by have:=(hO k h).2;omega)
  (fun W1 hb1 hs1=>hseq W1 (hB0.trans (hb1.mono (by omega))) (by omega)) (fun _=>rfl)
  (CollPI w n0)
  (fun G s A B hG hs hk=>by
   obtain ⟨ov,ps,a0,a1,a2,a3,a4,a5⟩:=hs
   refine ⟨ov,ps,a0,a1.of_block (hk.block _ a1.lt ⟨fun h=>?_,by omega⟩),a2.kept (fun k hk2=>hk.block _ (a2.lt k hk2).2 ⟨a3 k hk2,?_⟩),a3,hk.to_below a4 (by omega) (fun k hk2=>⟨fun h=>?_,by omega⟩),Nat.le_trans a5 hk.size⟩
   ·rcases hG _ h with h | h
    ·omega
    ·have:=(hO _ h).2;omega
   ·have:=(a2.lt k hk2).1;omega
   ·rcases hG _ h with h | h
    ·omega
    ·have:=(hO _ h).1;omega)
  (fun _ _ _ _ h _=>h)
  (fun G W' hG hb=>⟨.slice none 0 0,[],rfl,o1.of_block (hb.block _ (by omega)),RecT.Own.nil _ _,(fun k h=>by cases h),(hB0.trans (hb.mono (by omega))).mono hn0,by have:=hb.size;omega⟩)
  (CollPG w fun p y=>#[.slice none 0 0,.func (.func gf) #[] lb,.pointer (some ⟨w.heap.size,0,none⟩),undef,.slice none 0 0,p,.func (.func gf) #[] lb,y,undef,undef,undef,undef,undef])
  (fun x a A B hg hk=>by
   obtain ⟨g,q,h0,h1,h2,h4⟩:=hg
   exact ⟨g,q,h0,h1,h2.of_block (hk.block g h2.lt (by omega)),h4⟩)
  ?assign ?body ?done
 case assign=>
  intro l pre x W K hit hs hK
  obtain ⟨q,rfl⟩:=hLx x hit
  have hK':=Lib.hid hK
  clear hK
  rw [show (inE q).2 = RPeer.V q from rfl]
  go_simp
  gi_wp2_with (first
   | ((with_reducible refine wpListIn_round (o:=⟨some 5,Op.alloc _,_,_,_,_⟩) rfl (fun c hc=>by cases hc) ?_);(refine RPeer.wp_alloc rfl fun w3 ho3 hb3 hs3=>?_);have HO3:=Lib.hid ho3;have HB3:=Lib.hid hb3;clear ho3 hb3 hs3)
   | ((with_reducible refine wpListIn_round (o:=⟨none,Op.store _ (.tmp 5) (.tmp 7),_,_,_,_⟩) rfl (fun c hc=>by cases hc) ?_);(refine HO3.out.store (.tmp 5) (.tmp 7) rfl rfl rfl (RPeer_ok q) fun w4 ho4 hg4 hs4=>?_);have HB4:=Lib.hid (HB3.out.grown hg4 (by have:=HB3.out.size;omega) (fun k e=>by cases e;exact Nat.le_refl _));have HO4:=Lib.hid ho4;clear ho4 hg4 hs4))
  exact hK'.out _ _ HB4.out ⟨W.heap.size,q,rfl,by omega,HO4.out,rfl⟩
 case body=>
  rintro l G pre x a' W hG hGl ⟨ov,ps,q0,q1,q2,q3,q4,q5⟩ hit ⟨g,q,rfl,g1,g2,rfl⟩ hlen hW2
  subst q0
  obtain ⟨oa,oc,hv⟩:=q2.row.len
  subst hv
  have qc:=q1.cell
  have qf:=q1.free
  have hGw:¬ G w.heap.size:=fun h=>by
   rcases hG _ h with h | h
   ·omega
   ·have:=(hO _ h).2;omega
  have HQ2:=Lib.hid q2
  have HG2:=Lib.hid g2
  have hpl:ps.length < L.length:=by simpa using hlen
  gi_wp2_with (first
   | ((with_reducible refine wpListIn_round (o:=⟨some 9,_,_,_,_,_⟩) rfl (fun c hc=>by cases hc) ?_);refine HG2.out.at_.wp rfl rfl ?_)
   | ((with_reducible refine wpListIn_round (o:=⟨some 10,_,_,_,_,_⟩) rfl (fun c hc=>by cases hc) ?_);refine RPeer.wp_build1 (x:=q) Tryz.underlying71 (.tmp 9) (RPeer_ok q) rfl rfl ?_;intro w2 ho2 hb2 hs2;have HO2:=Lib.hid ho2.row;have HB2:=Lib.hid hb2;have HQ3:=Lib.hid (q2.kept (w':=w2) (fun k hk2=>hb2.block _ (q2.lt k hk2).2));have qc2:=(q1.of_new hb2).cell;have qf2:=(q1.of_new hb2).free;clear ho2 hb2)
   | ((with_reducible refine wpListIn_round (o:=⟨some 11,_,_,_,_,_⟩) rfl (fun c hc=>by cases hc) ?_);refine HQ3.out.app Tryz.underlying71 (.tmp 8) (.tmp 10) rfl rfl rfl HO2.out (by simp;omega) (by omega) ?_;intro v3 w3 ho3 hg3 hu3;obtain ⟨va,vc,hv3⟩:=ho3.row.len;subst hv3;have q13:=(q1.of_new HB2.out).grown hg3 (fun e=>by have:=(HQ3.out.lt _ e.symm).1;omega);have qc3:=q13.cell;have qf3:=q13.free))
  have hwne:∀ r,(Value.slice oa ps.length oc).ownBlock = some r→w.heap.size + 3 ≤ r:=fun r e=>(q2.lt r e).1
  have ho4:RPeer.Own (w3.setCell ⟨w.heap.size,0,none⟩ (.slice va (ps.length + 1) vc)) (w.heap.size + 3) (.slice va (ps.length + 1) vc) (ps ++ [q]):=by
   rw [List.length_append,List.length_singleton] at ho3
   exact ho3.kept (fun k hk2=>Below.heap_setCell _ _ _ _ (by have:=(ho3.lt k hk2).1;show k ≠ w.heap.size;omega))
  refine ⟨(((Kept.refl _ W).below HB2.out).grown hg3 (fun r e=>?_)).setCell (fun h=>?_) _,_,ps ++ [q],by simp,q13.set _,ho4,fun k hk2 hGk=>?_,?_,?_⟩
  ·rintro (h | h | h | h)
   ·exact q3 r e h
   ·have:=hwne r e;omega
   ·have:=hwne r e;omega
   ·have:=hwne r e;omega
  ·rcases h with h | h | h | h
   ·exact hGw h
   ·dsimp only at h;omega
   ·dsimp only at h;omega
   ·dsimp only at h;omega
  ·rcases hu3 k (by rw [List.length_append] at *;exact hk2) with h | h
   ·exact q3 k h hGk
   ·have:=hGl k hGk;have:=HB2.out.size;omega
  ·have hA:Below n0 w w2:=q4.trans (HB2.out.mono (by omega))
   exact (hA.grown hg3 (by omega) (fun r e=>by have:=hwne r e;omega)).setCell (by show n0 ≤ w.heap.size;omega) _
  ·have:=hg3.size
   have:=HB2.out.size
   simp only [World.size_setCell];omega
 case done=>
  rintro G xs W hS ⟨ov,ps,q0,q1,q2,q3,q4,q5⟩ hW2 hD
  subst q0
  obtain ⟨oa,oc,hv⟩:=q2.row.len
  subst hv
  have qc:=q1.cell
  have qf:=q1.free
  gi_wp2
  refine ⟨by simp,.inl ⟨_,_,rfl,run_takeDeferred hD,?_⟩⟩
  refine ⟨_,results_tmp rfl _ _ _,?_⟩
  have ho:=q2.kept (w':=W.putObj W0.heap.size (.deferred none)) (fun k hk2=>World.putObj_heap_other (by have:=(q2.lt k hk2).1;omega))
  exact ⟨_,ps,rfl,hS,ho.mono (by omega),q4.grown (grownBy_putObj' _ _ _) (by omega) (fun k e=>by cases e;omega)⟩
set_option maxHeartbeats 800000 in
theorem CollectP_any (gf:Nat) (lb:Array Value) (L:List (Int × Value)) (n0:Nat) (O:Nat→Prop) (w:World) (hLx:∀ x ∈ L,∃ q,x = inE q) (hL:L.length ≤ 1048576) (hn0:n0 ≤ w.heap.size) (hO:∀ k,O k→n0 ≤ k∧k < w.heap.size)
  (eg:∀ args w,(callFunc gf args).run Tryz.prog w = .ok (.enter gf args) w)
  (hseq:∀ W1,Below w.heap.size w W1→w.heap.size ≤ W1.heap.size→SeqT Fence.wide 4 Tryz.prog gf lb (fun x:Int × Value=>#[x.2]) (fun pre x _=>x ∈ L) (fun xs=>xs.Perm L) O n0 L.length W1) :
  Calls Tryz.prog 133 #[.func (.func gf) #[] lb] w fun e w'=>∃ v ps,e = .returned v∧(ps.map inE).Perm L∧RPeer.Own w' w.heap.size v ps∧Below n0 w w':=by
 go_enter Tryz.func133,Tryz.ntmps133
 go_wp2_with fail
 refine (AppendSeqP_any gf lb L n0 O w hLx hL hn0 hO eg hseq).mono ?_
 rintro e w2 ⟨v,ps,rfl,hp,ho,hb⟩
 go_wp2
 go_ret
 exact ⟨v,ps,rfl,hp,ho,hb⟩
end Go.Proofs.YtnohglkilpnjhaaGreatDoor
