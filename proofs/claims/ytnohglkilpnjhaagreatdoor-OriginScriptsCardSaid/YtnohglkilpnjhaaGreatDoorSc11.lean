/- Lemmas that the statement of this claim leans on; their own comments are taken out, for the size of the claim. No condition beyond what each lemma states. -/
import Derived.Test.YtnohglkilpnjhaaGreatDoorSc10
import Derived.Laws.StructEq
import Derived.Deep.Cut
import Derived.BigQuiet
set_option linter.unusedVariables false
set_option linter.unusedSimpArgs false
set_option linter.unusedSectionVars false
namespace Go.Proofs.YtnohglkilpnjhaaGreatDoor
open Go.RowKit Go.Shelf
def besideZ (n i:Nat):Int:=if i % 2 = 1 then (i:Int) - 1 else if i + 1 < n then (i:Int) + 1 else -1
theorem xor_ones:(List.range 1024).all (fun i=>bits .xor .i64 ((i:Nat):Int) 1 == if i % 2 = 1 then (i:Int) - 1 else (i:Int) + 1) = true:=by decide +kernel
theorem xor_one (i:Nat) (h:i < 1024):bits .xor .i64 (i:Int) 1 = if i % 2 = 1 then (i:Int) - 1 else (i:Int) + 1:=by
 have:=List.all_eq_true.1 xor_ones i (List.mem_range.2 h)
 simpa using this
set_option maxRecDepth 100000 in
set_option maxHeartbeats 800000 in
theorem beside_any (n i:Nat) (w:World) (hi:i < n) (hn:n ≤ 1024) :
  Calls Tryz.prog 110 #[.int .i64 (n:Int),.int .i64 (i:Int)] w fun e w'=>e = .returned (.int .i64 (besideZ n i))∧w' = w:=by
 have hx:=xor_one i (by omega)
 unfold besideZ
 by_cases h1:i % 2 = 1
 ·rw [if_pos h1] at hx ⊢
  have hlt:(i:Int) - 1 < (n:Int):=by omega
  go_enter Tryz.func110,Tryz.ntmps110
  go_wp2
  go_ret
  exact ⟨rfl,rfl⟩
 ·rw [if_neg h1] at hx ⊢
  by_cases h2:i + 1 < n
  ·rw [if_pos h2]
   have hlt:(i:Int) + 1 < (n:Int):=by omega
   go_enter Tryz.func110,Tryz.ntmps110
   go_wp2
   go_ret
   exact ⟨rfl,rfl⟩
  ·rw [if_neg h2]
   have hlt:¬ ((i:Int) + 1 < (n:Int)):=by omega
   go_enter Tryz.func110,Tryz.ntmps110
   go_wp2
   go_ret
   exact ⟨rfl,rfl⟩
end Go.Proofs.YtnohglkilpnjhaaGreatDoor
namespace Go.Proofs.YtnohglkilpnjhaaGreatDoor
def stepP (row:List (List UInt8)) (i:Nat):List (List UInt8):=if 0 ≤ besideZ row.length i then [row.getD (besideZ row.length i).toNat []] else []
def proofR:List (List (List UInt8))→Nat→List (List UInt8)
 | [],_=>[]
 | r :: rs,i=>stepP r i ++ proofR rs (i / 2)
def proofL (l:List (List UInt8)) (i:Nat):List (List UInt8):=proofR (rowsL l) i
theorem proofR_snoc (rs:List (List (List UInt8))) (x:List (List UInt8)) (i:Nat):proofR (rs ++ [x]) i = proofR rs i ++ stepP x (i / 2 ^ rs.length):=by
 induction rs generalizing i with
 | nil=>simp [proofR]
 | cons r rs ih=>
  simp only [List.cons_append,proofR,ih,List.append_assoc,List.length_cons]
  rw [Nat.div_div_eq_div_mul,Nat.pow_succ,Nat.mul_comm 2]
theorem stepP_len (row:List (List UInt8)) (i:Nat):(stepP row i).length ≤ 1:=by unfold stepP;split <;> simp
theorem proofR_len (rs:List (List (List UInt8))) (i:Nat):(proofR rs i).length ≤ rs.length:=by
 induction rs generalizing i with
 | nil=>simp [proofR]
 | cons r rs ih=>
  have:=ih (i / 2)
  have:=stepP_len r i
  simp only [proofR,List.length_append,List.length_cons]
  omega
theorem stepP_one (l:List (List UInt8)) (h:l.length ≤ 1) (i:Nat) (hi:i < l.length):stepP l i = []:=by
 unfold stepP besideZ
 rw [if_neg]
 have:i = 0:=by omega
 subst this
 simp;omega
theorem proofL_step {l:List (List UInt8)} (h:1 < l.length) (i:Nat):proofL l i = stepP l i ++ proofL (aboveL l) (i / 2):=by
 unfold proofL
 rw [rowsL_step h]
 rfl
theorem proofL_end {l:List (List UInt8)} (h:l.length ≤ 1) (i:Nat) (hi:i < l.length):proofL l i = []:=by
 unfold proofL
 rw [rowsL_end h]
 simp [proofR,stepP_one l h i hi]
theorem rowsP_len (f:Nat) (l:List (List UInt8)) (k:Nat) (h:l.length ≤ 2 ^ k):(rowsP f l).length ≤ k + 1:=by
 induction f generalizing l k with
 | zero=>simp [rowsP]
 | succ f ih=>
  simp only [rowsP]
  split
  ·simp
  ·cases k with
   | zero=>simp at h;omega
   | succ k=>
    have:=ih (aboveL l) k (by rw [aboveL_len];rw [Nat.pow_succ] at h;omega)
    simp;omega
theorem rowsL_len (l:List (List UInt8)) (k:Nat) (h:l.length ≤ 2 ^ k):(rowsL l).length ≤ k + 1:=rowsP_len _ _ _ h
theorem rows_at (n:Nat):∀ (l:List (List UInt8)) (i:Nat),l.length ≤ n→i < l.length→Dig32 l→∀ pre x,pre ++ [x] <+: rowsL l→i / 2 ^ pre.length < x.length∧x.length ≤ l.length∧Dig32 x:=by
 induction n with
 | zero=>intro l i h1 h2;omega
 | succ n ih=>
  intro l i h1 h2 h32 pre x hp
  by_cases h:1 < l.length
  ·rw [rowsL_step h] at hp
   cases pre with
   | nil=>
    obtain ⟨t,ht⟩:=hp
    simp at ht
    rw [ht.1]
    exact ⟨by simpa using h2,Nat.le_refl _,h32⟩
   | cons r pre=>
    obtain ⟨t,ht⟩:=hp
    simp only [List.cons_append,List.cons.injEq] at ht
    have:=ih (aboveL l) (i / 2) (by rw [aboveL_len];omega) (by rw [aboveL_len];omega) (aboveL_32 l h32) pre x ⟨t,ht.2⟩
    rw [aboveL_len] at this
    simp only [List.length_cons]
    rw [Nat.pow_succ,Nat.mul_comm,← Nat.div_div_eq_div_mul]
    exact ⟨this.1,by omega,this.2.2⟩
  ·rw [rowsL_end (by omega)] at hp
   obtain ⟨t,ht⟩:=hp
   cases pre with
   | nil=>
    simp at ht
    rw [ht.1]
    exact ⟨by simpa using h2,Nat.le_refl _,h32⟩
   | cons r pre=>simp at ht
def proofE (l:List (List UInt8)) (i:Int):List (List UInt8) × Int:=if 0 ≤ i∧i < l.length∧l.length ≤ 1024 then (proofL l i.toNat,0) else ([],1)
end Go.Proofs.YtnohglkilpnjhaaGreatDoor
namespace Go.Proofs.YtnohglkilpnjhaaGreatDoor
open Go.RowKit
set_option maxRecDepth 100000
def ProofPost (w:World) (p:List (List UInt8) × Int) (e:Ending) (w':World):Prop:=
 ∃ v,e = .returned (.tuple #[v,.int .i64 p.2])∧OwnD w' w.heap.size v p.1∧Below w.heap.size w w'
theorem rootL_len {l:List (List UInt8)} (h:Dig32 l):(rootL l).length = 32:=by
 obtain ⟨n,hn⟩:∃ n,l.length ≤ n:=⟨_,Nat.le_refl _⟩
 induction n generalizing l with
 | zero=>rw [rootL_none (by omega)];exact noneL_len
 | succ n ih=>
  by_cases h0:l.length = 0
  ·rw [rootL_none h0];exact noneL_len
  by_cases h1:l.length = 1
  ·rw [rootL_one h1];exact h.getD (by omega)
  ·rw [rootL_step (by omega)]
   exact ih (aboveL_32 l h) (by rw [aboveL_len];omega)
end Go.Proofs.YtnohglkilpnjhaaGreatDoor
namespace Go.Proofs.YtnohglkilpnjhaaGreatDoor
open Go.RowKit
theorem wpList_met {P:Program} {ops:Array Oper} {rest:List Oper} {o:Oper} {a:Act} {w:World} {Q:Exit→Act→World→Prop} (hw:Region.wanted o (yielded ops a.tmps) = true)
  (h:∀ K:Act→World→Prop,(∀ a w,wpList P ops Q rest a w→K a w)→o.wp P a w K Q):wpList P ops Q (o :: rest) a w:=
 wpList_step fun K hK=>by rw [if_pos hw];exact h K hK
theorem eqFields_all {P:Program} {w:World} {d:Nat} {xs ys:Array Value} (g:Nat→Bool):∀ fs:List Field,
  (∀ f ∈ fs, f.name ≠ "_" ∧ ∃ a b, (part f.type xs f.offset).run P w = .ok a w ∧ (part f.type ys f.offset).run P w = .ok b w ∧ (Op.equalIn d f.type a b).run P w = .ok (g f.offset) w) →
  (Op.eqFields d xs ys fs).run P w = .ok (fs.all fun f=>g f.offset) w
 | [],_=>by simp [Op.eqFields,Sem.run_pure]
 | f :: fs,h=>by
  obtain ⟨hn,a,b,h1,h2,h3⟩:=h f (.head _)
  have ih:=eqFields_all g fs (fun f' hf=>h f' (.tail _ hf))
  simp only [Op.eqFields,hn,ne_eq,not_false_eq_true,if_true,Sem.run_bind,h1,h2,h3,Result.andThen_ok,List.all_cons]
  cases g f.offset
  ·simp [Sem.run_pure]
  ·simpa using ih
end Go.Proofs.YtnohglkilpnjhaaGreatDoor
namespace Go.Proofs.YtnohglkilpnjhaaGreatDoor
open Go.RowKit
set_option maxRecDepth 100000
structure BlobL where
 dig:List UInt8
 size:Int
 piece:Int
 root:List UInt8
deriving DecidableEq
def BlobL.cells (x:BlobL):List Value:=x.dig.map B8 ++ (.int .i64 x.size :: .int .i64 x.piece :: x.root.map B8)
def BlobL.ok (x:BlobL):Prop:=x.dig.length = 32∧x.root.length = 32
def BlobV (x:BlobL):Value:=.agg x.cells.toArray
def z32:List UInt8:=List.replicate 32 0
def BlobL.zero:BlobL:=⟨z32,0,0,z32⟩
theorem BlobL.zero_ok:BlobL.zero.ok:=⟨rfl,rfl⟩
theorem BlobL.cells_len {x:BlobL} (h:x.ok):x.cells.length = 66:=by simp [BlobL.cells,h.1,h.2]
def BlobO (w:World) (g:Nat) (x:BlobL):Prop:=w.heap[g]? = some (.cells x.cells.toArray 81 (0,0))∧x.ok
theorem BlobO.lt {w:World} {g:Nat} {x:BlobL} (h:BlobO w g x):g < w.heap.size:=(Array.getElem?_eq_some_iff.1 h.1).1
theorem BlobO.of_new {w w':World} {g:Nat} {x:BlobL} (h:BlobO w g x) (hb:Below w.heap.size w w'):BlobO w' g x:=⟨(hb.block _ h.lt).trans h.1,h.2⟩
theorem BlobO.of_block {w w':World} {g:Nat} {x:BlobL} (h:BlobO w g x) (hb:w'.heap[g]? = w.heap[g]?):BlobO w' g x:=⟨hb.trans h.1,h.2⟩
theorem blob_alloc (w:World) {x:BlobL} (h:x.ok):BlobO (w.alloc (.cells x.cells.toArray 81)) w.heap.size x:=⟨heap_alloc_new w _,h⟩
theorem BlobO.size {w:World} {g:Nat} {x:BlobL} (h:BlobO w g x):w.cell? ⟨g,32,none⟩ = some (.int .i64 x.size):=by
 simp only [World.cell?,h.1,BlobL.cells]
 have:=h.2.1
 simp [List.getElem?_append_right,this]
theorem BlobO.piece {w:World} {g:Nat} {x:BlobL} (h:BlobO w g x):w.cell? ⟨g,33,none⟩ = some (.int .i64 x.piece):=by
 simp only [World.cell?,h.1,BlobL.cells]
 have:=h.2.1
 simp [List.getElem?_append_right,this]
theorem BlobO.dig {w:World} {g:Nat} {x:BlobL} (h:BlobO w g x):DigAt w g 0 x.dig:=⟨h.2.1,fun j hj=>by
 have:=h.2.1
 simp only [World.cell?,h.1,BlobL.cells,Nat.zero_add]
 simp [List.getElem?_append_left (show j < (x.dig.map B8).length by simp [this,hj])]⟩
theorem BlobO.root {w:World} {g:Nat} {x:BlobL} (h:BlobO w g x):DigAt w g 34 x.root:=⟨h.2.2,fun j hj=>by
 have h1:=h.2.1
 simp only [World.cell?,h.1,BlobL.cells]
 have e:34 + j - 32 = j + 2:=by omega
 simp only [Option.isSome_none,Bool.false_eq_true,if_false,List.getElem?_toArray]
 rw [List.getElem?_append_right (by simp [h1];omega)]
 simp [h1,e]⟩
theorem size_blob:(Tryz.prog.info? 81).map (·.size) = some 66:=by kernel_rfl
theorem cells_one (x:BlobL):x.cells.toArray.all (·.oneCell') = true:=
 Array.all_eq_true_iff_forall_mem.2 (fun v hv=>by
  have hv':v ∈ x.cells:=by simpa using hv
  simp only [BlobL.cells,List.mem_append,List.mem_cons,List.mem_map] at hv'
  rcases hv' with ⟨b,_,rfl⟩ | rfl | rfl | ⟨b,_,rfl⟩ <;> rfl)
theorem run_load_blob {w:World} {g:Nat} {x:BlobL} (h:BlobO w g x):(loadVar 81 ⟨g,0,none⟩).run Tryz.prog w = .ok (BlobV x) w:=
 run_loadVar_row (P:=Tryz.prog) w g 81 81 x.cells.toArray (0,0) _ h.1 Tryz.underlying81 rfl (by rw [size_blob];simp [BlobL.cells_len h.2])
theorem wp_load_blob {w:World} {o:Oper} {a:Act} {K:Act→World→Prop} {Q:Exit→Act→World→Prop} {p:Operand} {g:Nat} {x:BlobL} (ho:o.op = .load 81 p) (hp:a.eval p = .pointer (some ⟨g,0,none⟩)) (h:BlobO w g x)
  (hK:K (a.put o.dst (BlobV x)) w):o.wp Tryz.prog a w K Q:=by
 refine wp_val (v:=BlobV x) ?_ hK
 have:=run_load_blob h
 unfold execOp
 simp only [ho,hp,Instr.loadAt,Instr.sureAddr,Sem.run_bind,Sem.run_pure,Result.andThen_ok,this]
theorem wp_store_blob {w:World} {op:Oper} {a:Act} {K:Act→World→Prop} {Q:Exit→Act→World→Prop} (p q:Operand) (g:Nat) (x y:BlobL) (ho:op.op = .store 81 p q)
  (hp:a.eval p = .pointer (some ⟨g,0,none⟩)) (hq:a.eval q = BlobV x) (hx:x.ok) (hg:BlobO w g y)
  (h:∀ w',BlobO w' g x→w.grownBy w' (some g)→w'.heap.size = w.heap.size→K (a.put op.dst undef) w'):op.wp Tryz.prog a w K Q:=by
 have hrun:=run_storeVar_row (P:=Tryz.prog) w g 81 81 _ x.cells.toArray hg.1 (by rw [size_blob];simp [BlobL.cells_len hx]) (by simp [BlobL.cells_len hx,BlobL.cells_len hg.2]) (cells_one x)
 unfold BlobV at hq
 unfold Oper.wp execOp
 simp only [ho,hp,hq,Instr.storeAt,Instr.sureAddr,Sem.run_bind,Sem.run_pure,Result.andThen_ok,hrun]
 exact h _ ⟨setRow_heap _ _ _ _ _ _ hg.1,hx⟩ (grown_setRow _ _ _) (by simp [World.setRow])
theorem fields_blob : (Tryz.prog.fieldsOf 81).toList.map (fun f => (f.name, f.type, f.offset)) = [("Digest", 31, 0), ("Size", 3, 32), ("Piece", 3, 33), ("Root", 31, 34)] := by kernel_rfl
theorem run_equalIn_blob (d:Nat) (x y:BlobL) (hx:x.ok) (hy:y.ok) (w:World):(Op.equalIn (d + 3) 81 (BlobV x) (BlobV y)).run Tryz.prog w = .ok (decide (x = y)) w:=by
 unfold BlobV
 rw [run_equalIn_struct w (d + 2) 81 _ _ (by kernel_rfl) (by kernel_rfl)]
 have hsz:(sizeOf 31).run Tryz.prog w = .ok 32 w:=by kernel_rfl
 have hag:(isAgg 31).run Tryz.prog w = .ok true w:=by kernel_rfl
 have hai:(isAgg 3).run Tryz.prog w = .ok false w:=by kernel_rfl
 have p0:∀ z:BlobL,z.ok→(part 31 z.cells.toArray 0).run Tryz.prog w = .ok (.agg (z.dig.map B8).toArray) w:=fun z hz=>by
  simp only [part,Sem.run_bind,hag,Result.andThen_ok,if_true,hsz,Sem.run_pure]
  congr 2
  apply Array.ext'
  have:=hz.1
  simp [Array.toList_extract,List.extract_eq_take_drop,BlobL.cells,List.take_append_of_le_length,this,List.take_of_length_le]
 have p1:∀ z:BlobL,z.ok→(part 3 z.cells.toArray 32).run Tryz.prog w = .ok (.int .i64 z.size) w:=fun z hz=>by
  have:=hz.1
  simp [part,Sem.run_bind,hai,Sem.run_pure,BlobL.cells,List.getElem?_append_right,this]
 have p2:∀ z:BlobL,z.ok→(part 3 z.cells.toArray 33).run Tryz.prog w = .ok (.int .i64 z.piece) w:=fun z hz=>by
  have:=hz.1
  simp [part,Sem.run_bind,hai,Sem.run_pure,BlobL.cells,List.getElem?_append_right,this]
 have p3:∀ z:BlobL,z.ok→(part 31 z.cells.toArray 34).run Tryz.prog w = .ok (.agg (z.root.map B8).toArray) w:=fun z hz=>by
  simp only [part,Sem.run_bind,hag,Result.andThen_ok,if_true,hsz,Sem.run_pure]
  congr 2
  apply Array.ext'
  have h1:=hz.1
  have h2:=hz.2
  simp [Array.toList_extract,List.extract_eq_take_drop,BlobL.cells,List.drop_append,h1,List.take_of_length_le,h2]
 have hd:∀ a b:List UInt8,a.length = 32→b.length = 32→(Op.equalIn (d + 2) 31 (.agg (a.map B8).toArray) (.agg (b.map B8).toArray)).run Tryz.prog w = .ok (decide (a = b)) w:=fun a b ha hb=>
  run_equalIn_octs d 31 5 a b (by omega) (by rw [ha];exact Tryz.underlying31) Tryz.underlying5 (by kernel_rfl) (by kernel_rfl)
 have hi:∀ a b:Int,(Op.equalIn (d + 2) 3 (.int .i64 a) (.int .i64 b)).run Tryz.prog w = .ok (a == b) w:=fun a b=>run_equalIn_int w (d + 1) 3 .i64 .i64 a b Tryz.underlying3
 obtain ⟨g,hg⟩:∃ g:Nat→Bool,g = fun k=>if k = 0 then decide (x.dig = y.dig) else if k = 32 then x.size == y.size else if k = 33 then x.piece == y.piece else decide (x.root = y.root):=⟨_,rfl⟩
 have hf:=fields_blob
 generalize (Tryz.prog.fieldsOf 81).toList = fs at hf
 rw [eqFields_all g fs (fun f hfm=>by
  have hm:(f.name,f.type,f.offset) ∈ fs.map (fun f=>(f.name,f.type,f.offset)):=List.mem_map.2 ⟨f,hfm,rfl⟩
  rw [hf] at hm
  simp only [List.mem_cons,Prod.mk.injEq,List.not_mem_nil,or_false] at hm
  rcases hm with ⟨h1,h2,h3⟩ | ⟨h1,h2,h3⟩ | ⟨h1,h2,h3⟩ | ⟨h1,h2,h3⟩
  ·rw [h1,h2,h3,hg];exact ⟨by decide,_,_,p0 x hx,p0 y hy,hd _ _ hx.1 hy.1⟩
  ·rw [h1,h2,h3,hg];exact ⟨by decide,_,_,p1 x hx,p1 y hy,hi _ _⟩
  ·rw [h1,h2,h3,hg];exact ⟨by decide,_,_,p2 x hx,p2 y hy,hi _ _⟩
  ·rw [h1,h2,h3,hg];exact ⟨by decide,_,_,p3 x hx,p3 y hy,hd _ _ hx.2 hy.2⟩)]
 have e:(fs.all fun f=>g f.offset) = (fs.map (fun f=>(f.name,f.type,f.offset))).all (fun q=>g q.2.2):=by rw [List.all_map];rfl
 rw [e,hf,hg]
 congr 1
 obtain ⟨a,b,c,e⟩:=x
 obtain ⟨a',b',c',e'⟩:=y
 simp [Bool.decide_and]
 rw [Bool.eq_iff_iff]
 simp
theorem guard_blob:Tryz.prog.eqGuardType Tryz.prog.depth 81 = false:=by kernel_rfl
theorem fill_step {place:Nat→Option (Nat × Nat)} {i:Nat} {v:Value} {rest:List (Nat × Value)} {cs:Array Value} (A M N B:List Value) (hcs:cs = (A ++ (M ++ B)).toArray) (hp:place i = some (A.length,M.length)) (hv:v.cells = N.toArray) (hn:N.length = M.length) :
  Instr.fill place cs ((i,v) :: rest) = Instr.fill place (A ++ (N ++ B)).toArray rest:=by
 subst hcs
 rw [Instr.fill]
 simp only [hp]
 rw [if_neg (by simp [hv,hn])]
 congr 1
 rw [hv]
 apply Array.ext_getElem?
 intro k
 have:=(Great.foldl_set A.length N 0 (A ++ (M ++ B)).toArray).2 k
 rw [← Array.foldl_toList,Array.toList_zipIdx,List.toList_toArray,this]
 simp only [Nat.add_zero,List.getElem?_toArray,List.size_toArray,List.length_append]
 by_cases h1:k < A.length
 ·rw [if_neg (by omega),List.getElem?_append_left h1,List.getElem?_append_left h1]
 ·by_cases h2:k < A.length + N.length
  ·rw [if_pos (by omega),List.getElem?_append_right (by omega),List.getElem?_append_left (by omega)]
  ·rw [if_neg (by omega),List.getElem?_append_right (by omega),List.getElem?_append_right (by omega),List.getElem?_append_right (by omega),List.getElem?_append_right (by omega),hn]
theorem places_blob:∃ (i:TypeInfo) (fs:Array Field),Tryz.prog.info? 81 = some i∧i.zero = some (.agg BlobL.zero.cells.toArray)∧Tryz.prog.underlying 81 = some (.struct fs) ∧
  fs.toList.mapM (fun f=>(Tryz.prog.info? f.type).map fun i=>(f.offset,i.size)) = some [(0,32),(32,1),(33,1),(34,32)]:=by
 have hz:(Tryz.prog.info? 81).map (·.zero) = some (some (.agg BlobL.zero.cells.toArray)):=by kernel_rfl
 obtain ⟨i,hi,hz⟩:=Option.map_eq_some_iff.1 hz
 exact ⟨i,Tryz.prog.fieldsOf 81,hi,hz,by kernel_rfl,by kernel_rfl⟩
theorem run_build_blob (a b:List UInt8) (n k:Int) (ha:a.length = 32) (hb:b.length = 32) (w:World) :
  (Instr.build 81 #[(0,.agg (a.map B8).toArray),(1,.int .i64 n),(2,.int .i64 k),(3,.agg (b.map B8).toArray)]).run Tryz.prog w = .ok (BlobV ⟨a,n,k,b⟩) w:=by
 refine run_build w 81 _ _ ?_
 obtain ⟨i,fs,h1,h2,h3,h4⟩:=places_blob
 unfold Program.built
 rw [h1,h3]
 simp only [h2,h4]
 have e0:BlobL.zero.cells.toArray = ([] ++ (z32.map B8 ++ (Value.int .i64 0 :: Value.int .i64 0 :: z32.map B8))).toArray:=rfl
 rw [show (Value.agg BlobL.zero.cells.toArray).cells = BlobL.zero.cells.toArray from rfl,e0]
 rw [fill_step [] (z32.map B8) (a.map B8) _ (by first | rfl | simp) rfl rfl (by simp [ha,z32])]
 rw [fill_step (a.map B8) [.int .i64 0] [.int .i64 n] (.int .i64 0 :: z32.map B8) (by first | rfl | simp) (by simp [ha]) rfl rfl]
 rw [fill_step (a.map B8 ++ [.int .i64 n]) [.int .i64 0] [.int .i64 k] (z32.map B8) (by first | rfl | simp) (by simp [ha]) rfl rfl]
 rw [fill_step (a.map B8 ++ [.int .i64 n,.int .i64 k]) (z32.map B8) (b.map B8) [] (by first | rfl | simp) (by simp [ha,z32]) (by first | rfl | simp) (by simp [hb,z32])]
 simp [Instr.fill,BlobL.cells]
theorem run_build_blob2 (n k:Int) (w:World) :
  (Instr.build 81 #[(1,.int .i64 n),(2,.int .i64 k)]).run Tryz.prog w = .ok (BlobV ⟨z32,n,k,z32⟩) w:=by
 refine run_build w 81 _ _ ?_
 obtain ⟨i,fs,h1,h2,h3,h4⟩:=places_blob
 unfold Program.built
 rw [h1,h3]
 simp only [h2,h4]
 rw [show (Value.agg BlobL.zero.cells.toArray).cells = (z32.map B8 ++ ([Value.int .i64 0] ++ (Value.int .i64 0 :: z32.map B8))).toArray from rfl]
 rw [fill_step (z32.map B8) [.int .i64 0] [.int .i64 n] (.int .i64 0 :: z32.map B8) (by first | rfl | simp) (by simp [z32]) rfl rfl]
 rw [fill_step (z32.map B8 ++ [.int .i64 n]) [.int .i64 0] [.int .i64 k] (z32.map B8) (by first | rfl | simp) (by simp [z32]) rfl rfl]
 simp [Instr.fill,BlobL.cells]
theorem run_build_blob0 (w:World):(Instr.build 81 #[]).run Tryz.prog w = .ok (BlobV BlobL.zero) w:=by
 refine run_build w 81 _ _ ?_
 obtain ⟨i,fs,h1,h2,h3,h4⟩:=places_blob
 unfold Program.built
 rw [h1,h3]
 simp only [h2,h4]
 rfl
theorem wp_build_blob {w:World} {o:Oper} {a:Act} {K:Act→World→Prop} {Q:Exit→Act→World→Prop} {p q r s:Operand} (x y:List UInt8) (n k:Int) (ho:o.op = .build 81 #[(0,p),(1,q),(2,r),(3,s)])
  (hp:a.eval p = .agg (x.map B8).toArray) (hq:a.eval q = .int .i64 n) (hr:a.eval r = .int .i64 k) (hs:a.eval s = .agg (y.map B8).toArray) (hx:x.length = 32) (hy:y.length = 32) (hK:K (a.put o.dst (BlobV ⟨x,n,k,y⟩)) w):o.wp Tryz.prog a w K Q:=by
 refine wp_val ?_ hK
 have:=run_build_blob x y n k hx hy w
 unfold execOp
 simp only [ho,List.map_toArray,List.map_cons,List.map_nil,hp,hq,hr,hs,Sem.run_bind,this,Result.andThen_ok,Sem.run_pure]
theorem wp_build_blob2 {w:World} {o:Oper} {a:Act} {K:Act→World→Prop} {Q:Exit→Act→World→Prop} {p q:Operand} (n k:Int) (ho:o.op = .build 81 #[(1,p),(2,q)])
  (hp:a.eval p = .int .i64 n) (hq:a.eval q = .int .i64 k) (hK:K (a.put o.dst (BlobV ⟨z32,n,k,z32⟩)) w):o.wp Tryz.prog a w K Q:=by
 refine wp_val ?_ hK
 have:=run_build_blob2 n k w
 unfold execOp
 simp only [ho,List.map_toArray,List.map_cons,List.map_nil,hp,hq,Sem.run_bind,this,Result.andThen_ok,Sem.run_pure]
theorem wp_build_blob0 {w:World} {o:Oper} {a:Act} {K:Act→World→Prop} {Q:Exit→Act→World→Prop} (ho:o.op = .build 81 #[])
  (hK:K (a.put o.dst (BlobV BlobL.zero)) w):o.wp Tryz.prog a w K Q:=by
 refine wp_val ?_ hK
 have:=run_build_blob0 w
 unfold execOp
 simp only [ho,List.map_toArray,List.map_nil,Sem.run_bind,this,Result.andThen_ok,Sem.run_pure]
theorem results_blob {fn:Func} {p q:Tmp} (h:fn.results = #[.cell p 81,.tmp q]) (tmps:Array Value) {w:World} {b:Nat} {x:BlobL} {u:Value} (hp:tmps.getD p undef = .pointer (some ⟨b,0,none⟩)) (hq:tmps.getD q undef = u)
  (hx:BlobO w b x):(results fn tmps).run Tryz.prog w = .ok (.tuple #[BlobV x,u]) w:=by
 have hp':tmps[p]?.getD undef = .pointer (some ⟨b,0,none⟩):=by simpa using hp
 have hq':tmps[q]?.getD undef = u:=by simpa using hq
 simp [results,h,hp',hq',asAddr,run_load_blob hx]
def mrightB (n k:Int):Bool:=decide (1 ≤ n) && decide (n ≤ 1048576) && decide (16 ≤ k) && decide (k ≤ 16384) && decide ((n + k - 1) / k ≤ 1024)
def mcountB (n k:Int):Int:=if mrightB n k = true then (n + k - 1) / k else 0
theorem count_any (n k:Int) (w:World) (h1:1 ≤ n) (h2:n ≤ 1048576) (h3:16 ≤ k) (h4:k ≤ 16384) :
  Calls Tryz.prog 67 #[.int .i64 n,.int .i64 k] w fun e w'=>e = .returned (.int .i64 ((n + k - 1) / k))∧w' = w:=by
 go_enter Tryz.func67,Tryz.ntmps67
 go_wp2
 go_ret
 exact ⟨rfl,rfl⟩
set_option maxHeartbeats 1600000 in
theorem Right_any (x:BlobL) (w:World) (hx:x.ok) :
  Calls Tryz.prog 66 #[BlobV x] w fun e w'=>e = .returned (.bool (mrightB x.size x.piece))∧Below w.heap.size w w':=by
 have HO:=fun W=>(blob_alloc W hx)
 obtain ⟨cs,hcs⟩:∃ cs,x.cells.toArray = cs:=⟨_,rfl⟩
 have hbo:=blob_alloc w hx
 have hs:=hbo.size
 have hp:=hbo.piece
 have hb:Below w.heap.size w (w.alloc (.cells x.cells.toArray 81)):=(Below.refl _ w).alloc (Nat.le_refl _) _
 unfold BlobV
 rw [hcs] at hs hp hb ⊢
 clear HO hbo hcs
 obtain ⟨n,hn⟩:∃ n,x.size = n:=⟨_,rfl⟩
 obtain ⟨k,hk⟩:∃ n,x.piece = n:=⟨_,rfl⟩
 rw [hn] at hs ⊢
 rw [hk] at hp ⊢
 clear hn hk hx
 go_enter Tryz.func66,Tryz.ntmps66
 by_cases h1:1 ≤ n
 ·by_cases h2:n ≤ 1048576
  ·by_cases h3:16 ≤ k
   ·by_cases h4:k ≤ 16384
    ·have hr:mrightB n k = decide ((n + k - 1) / k ≤ 1024):=by unfold mrightB;simp [h1,h2,h3,h4]
     rw [hr]
     clear hr
     obtain ⟨q,hq⟩:∃ q,(n + k - 1) / k = q:=⟨_,rfl⟩
     rw [hq]
     go_wp2_with fail
     refine (count_any n k _ h1 h2 h3 h4).mono ?_
     rintro e w2 ⟨rfl,hw⟩
     subst w2
     simp only [hq]
     go_wp2
     go_ret
     exact ⟨rfl,hb⟩
    ·have hr:mrightB n k = false:=by unfold mrightB;simp [h4]
     rw [hr]
     clear hr
     go_wp2
     go_ret
     exact ⟨rfl,hb⟩
   ·have hr:mrightB n k = false:=by unfold mrightB;simp [h3]
    rw [hr]
    clear hr
    go_wp2
    go_ret
    exact ⟨rfl,hb⟩
  ·have hr:mrightB n k = false:=by unfold mrightB;simp [h2]
   rw [hr]
   clear hr
   go_wp2
   go_ret
   exact ⟨rfl,hb⟩
 ·have hr:mrightB n k = false:=by unfold mrightB;simp [h1]
  rw [hr]
  clear hr
  go_wp2
  go_ret
  exact ⟨rfl,hb⟩
set_option maxHeartbeats 1600000 in
theorem RRight_any (x:BlobL) (w:World) (hx:x.ok) :
  Calls Tryz.prog 143 #[BlobV x] w fun e w'=>e = .returned (.bool (mrightB x.size x.piece))∧Below w.heap.size w w':=by
 have HO:=fun W=>(blob_alloc W hx)
 obtain ⟨cs,hcs⟩:∃ cs,x.cells.toArray = cs:=⟨_,rfl⟩
 have hbo:=blob_alloc w hx
 have hs:=hbo.size
 have hp:=hbo.piece
 have hb:Below w.heap.size w (w.alloc (.cells x.cells.toArray 81)):=(Below.refl _ w).alloc (Nat.le_refl _) _
 unfold BlobV
 rw [hcs] at hs hp hb ⊢
 clear HO hbo hcs
 obtain ⟨n,hn⟩:∃ n,x.size = n:=⟨_,rfl⟩
 obtain ⟨k,hk⟩:∃ n,x.piece = n:=⟨_,rfl⟩
 rw [hn] at hs ⊢
 rw [hk] at hp ⊢
 clear hn hk hx
 go_enter Tryz.func143,Tryz.ntmps143
 by_cases h1:1 ≤ n
 ·by_cases h2:n ≤ 1048576
  ·by_cases h3:16 ≤ k
   ·by_cases h4:k ≤ 16384
    ·have hr:mrightB n k = decide ((n + k - 1) / k ≤ 1024):=by unfold mrightB;simp [h1,h2,h3,h4]
     rw [hr]
     clear hr
     obtain ⟨q,hq⟩:∃ q,(n + k - 1) / k = q:=⟨_,rfl⟩
     skip
     rw [hq]
     go_wp2
     go_ret
     exact ⟨rfl,hb⟩
    ·have hr:mrightB n k = false:=by unfold mrightB;simp [h4]
     rw [hr]
     clear hr
     go_wp2
     go_ret
     exact ⟨rfl,hb⟩
   ·have hr:mrightB n k = false:=by unfold mrightB;simp [h3]
    rw [hr]
    clear hr
    go_wp2
    go_ret
    exact ⟨rfl,hb⟩
  ·have hr:mrightB n k = false:=by unfold mrightB;simp [h2]
   rw [hr]
   clear hr
   go_wp2
   go_ret
   exact ⟨rfl,hb⟩
 ·have hr:mrightB n k = false:=by unfold mrightB;simp [h1]
  rw [hr]
  clear hr
  go_wp2
  go_ret
  exact ⟨rfl,hb⟩
theorem right_parts {n k:Int} (h:mrightB n k = true):1 ≤ n∧n ≤ 1048576∧16 ≤ k∧k ≤ 16384∧(n + k - 1) / k ≤ 1024:=by
 unfold mrightB at h
 simp at h
 omega
theorem count_pos {n k:Int} (h1:1 ≤ n) (h3:16 ≤ k):1 ≤ (n + k - 1) / k:=(Int.le_ediv_iff_mul_le (by omega)).2 (by omega)
set_option maxHeartbeats 1600000 in
theorem Count_any (x:BlobL) (w:World) (hx:x.ok) :
  Calls Tryz.prog 30 #[BlobV x] w fun e w'=>e = .returned (.int .i64 (mcountB x.size x.piece))∧Below w.heap.size w w':=by
 rw [show BlobV x = .agg x.cells.toArray from rfl]
 have hr1:=fun h=>right_parts (n:=x.size) (k:=x.piece) h
 have hc:mcountB x.size x.piece = if mrightB x.size x.piece = true then (x.size + x.piece - 1) / x.piece else 0:=rfl
 have HC:=Lib.hid hc
 clear hc
 go_enter Tryz.func30,Tryz.ntmps30
 go_upto_region 1 with (fail)
 obtain ⟨W,hW⟩:∃ W,w.alloc (.cells x.cells.toArray 81) = W:=⟨_,rfl⟩
 have hbo:=blob_alloc w hx
 have hb:Below w.heap.size w (w.alloc (.cells x.cells.toArray 81)):=(Below.refl _ w).alloc (Nat.le_refl _) _
 rw [hW] at hbo hb ⊢
 have HBO:=Lib.hid hbo
 clear hbo hW
 go_wp2_with ((with_reducible refine wpList_plain (o:=⟨some 3,Op.load 81 (.tmp 1),_,_,_,_⟩) rfl fun K hK=>wp_load_blob (g:=w.heap.size) rfl rfl HBO.out (hK _ _ ?_)))
 refine (Right_any x W hx).mono ?_
 rintro e w2 ⟨rfl,hb2⟩
 have hbA:=below_next hb hb2
 have hbo2:=HBO.out.of_new hb2
 have hs:=hbo2.size
 have hp:=hbo2.piece
 clear hbo2 hb2 hb HBO
 rcases hq:mrightB x.size x.piece with _ | _
 ·rw [hq] at HC
  go_wp2
  go_ret
  exact ⟨ret_int (by rw [HC.out];rfl),hbA⟩
 ·obtain ⟨q1,q2,q3,q4,q5⟩:=hr1 hq
  rw [hq] at HC
  clear hr1 hq
  obtain ⟨n,hn⟩:∃ n,x.size = n:=⟨_,rfl⟩
  obtain ⟨k,hk⟩:∃ n,x.piece = n:=⟨_,rfl⟩
  rw [hn] at hs q1 q2 q5 HC
  rw [hk] at hp q3 q4 q5 HC
  go_wp2_with fail
  refine (count_any n k _ q1 q2 q3 q4).mono ?_
  rintro e w3 ⟨rfl,hw⟩
  subst w3
  go_wp2
  go_ret
  exact ⟨ret_int (by rw [← hn,← hk] at *;rw [HC.out];rfl),hbA⟩
set_option maxHeartbeats 1600000 in
theorem RCount_any (x:BlobL) (w:World) (hx:x.ok) :
  Calls Tryz.prog 174 #[BlobV x] w fun e w'=>e = .returned (.int .i64 (mcountB x.size x.piece))∧Below w.heap.size w w':=by
 rw [show BlobV x = .agg x.cells.toArray from rfl]
 have hr1:=fun h=>right_parts (n:=x.size) (k:=x.piece) h
 have hc:mcountB x.size x.piece = if mrightB x.size x.piece = true then (x.size + x.piece - 1) / x.piece else 0:=rfl
 have HC:=Lib.hid hc
 clear hc
 go_enter Tryz.func174,Tryz.ntmps174
 go_upto_region 1 with (fail)
 obtain ⟨W,hW⟩:∃ W,w.alloc (.cells x.cells.toArray 81) = W:=⟨_,rfl⟩
 have hbo:=blob_alloc w hx
 have hb:Below w.heap.size w (w.alloc (.cells x.cells.toArray 81)):=(Below.refl _ w).alloc (Nat.le_refl _) _
 rw [hW] at hbo hb ⊢
 have HBO:=Lib.hid hbo
 clear hbo hW
 go_wp2_with ((with_reducible refine wpList_plain (o:=⟨some 4,Op.load 81 (.tmp 1),_,_,_,_⟩) rfl fun K hK=>wp_load_blob (g:=w.heap.size) rfl rfl HBO.out (hK _ _ ?_)))
 refine (RRight_any x W hx).mono ?_
 rintro e w2 ⟨rfl,hb2⟩
 have hbA:=below_next hb hb2
 have hbo2:=HBO.out.of_new hb2
 have hs:=hbo2.size
 have hp:=hbo2.piece
 clear hbo2 hb2 hb HBO
 rcases hq:mrightB x.size x.piece with _ | _
 ·rw [hq] at HC
  go_wp2
  go_ret
  exact ⟨ret_int (by rw [HC.out];rfl),hbA⟩
 ·obtain ⟨q1,q2,q3,q4,q5⟩:=hr1 hq
  rw [hq] at HC
  clear hr1 hq
  obtain ⟨n,hn⟩:∃ n,x.size = n:=⟨_,rfl⟩
  obtain ⟨k,hk⟩:∃ n,x.piece = n:=⟨_,rfl⟩
  rw [hn] at hs q1 q2 q5 HC
  rw [hk] at hp q3 q4 q5 HC
  go_wp2
  go_ret
  exact ⟨ret_int (by rw [← hn,← hk] at *;rw [HC.out];rfl),hbA⟩
def spanZ (n k i:Int):Int × Int × Int:=if i < 0∨mcountB n k ≤ i then (0,0,1) else (i * k,min k (n - i * k),0)
theorem span_parts {n k i:Int} (h0:0 ≤ i) (h1:i < mcountB n k):0 ≤ i * k∧i * k < n∧n ≤ 1048576∧16 ≤ k∧k ≤ 16384:=by
 unfold mcountB at h1
 split at h1
 ·rename_i hr
  obtain ⟨a,b,c,d,e⟩:=right_parts hr
  have h2:i * k + k ≤ n + k - 1:=by
   have:=(Int.le_ediv_iff_mul_le (by omega)).1 (show i + 1 ≤ (n + k - 1) / k by omega)
   rw [Int.add_mul,Int.one_mul] at this;exact this
  exact ⟨Int.mul_nonneg h0 (by omega),by omega,b,c,d⟩
 ·omega
set_option maxHeartbeats 1600000 in
theorem Span_any (x:BlobL) (i:Int) (w:World) (hx:x.ok) (i1:-9223372036854775808 ≤ i) (i2:i ≤ 9223372036854775807) :
  Calls Tryz.prog 68 #[BlobV x,.int .i64 i] w fun e w'=>e = .returned (.tuple #[.int .i64 (spanZ x.size x.piece i).1,.int .i64 (spanZ x.size x.piece i).2.1,.int .i64 (spanZ x.size x.piece i).2.2])∧Below w.heap.size w w':=by
 rw [show BlobV x = .agg x.cells.toArray from rfl]
 obtain ⟨S,hS⟩:∃ S,spanZ x.size x.piece i = S:=⟨_,rfl⟩
 rw [hS]
 have HS:=Lib.hid hS
 clear hS
 go_enter Tryz.func68,Tryz.ntmps68
 go_upto_region 1 with (fail)
 obtain ⟨W,hW⟩:∃ W,w.alloc (.cells x.cells.toArray 81) = W:=⟨_,rfl⟩
 have hbo:=blob_alloc w hx
 have hb:Below w.heap.size w (w.alloc (.cells x.cells.toArray 81)):=(Below.refl _ w).alloc (Nat.le_refl _) _
 rw [hW] at hbo hb ⊢
 have HBO:=Lib.hid hbo
 clear hbo hW
 by_cases h0:i < 0
 ·go_wp2
  go_ret3
  have e:S = (0,0,1):=by rw [← HS.out,spanZ,if_pos (.inl h0)]
  rw [e]
  exact ⟨rfl,hb⟩
 have h0':¬ i < 0:=h0
 go_wp2_with ((with_reducible refine wpList_met (o:=⟨some 11,_,_,_,_,_⟩) ?_ ?_);rfl;intro K hK;refine wp_load_blob (g:=w.heap.size) (x:=x) rfl rfl HBO.out (hK _ _ ?_))
 refine (Count_any x W hx).mono ?_
 rintro e w2 ⟨rfl,hb2⟩
 have hbA:=below_next hb hb2
 have hbo2:=HBO.out.of_new hb2
 have hs:=hbo2.size
 have hp:=hbo2.piece
 clear hbo2 hb2 hb HBO
 by_cases h1:mcountB x.size x.piece ≤ i
 ·have e:S = (0,0,1):=by rw [← HS.out,spanZ,if_pos (.inr h1)]
  clear HS
  go_wp2
  go_ret3
  rw [e]
  exact ⟨rfl,hbA⟩
 ·have e:S = (i * x.piece,min x.piece (x.size - i * x.piece),0):=by rw [← HS.out,spanZ,if_neg (by omega)]
  obtain ⟨q0,q1,q2,q3,q4⟩:=span_parts (by omega) (Int.not_le.1 h1)
  clear HS
  obtain ⟨c,hc⟩:∃ c,mcountB x.size x.piece = c:=⟨_,rfl⟩
  rw [hc] at h1 ⊢
  have hd:¬ c ≤ i:=h1
  obtain ⟨n,hn⟩:∃ n,x.size = n:=⟨_,rfl⟩
  obtain ⟨k,hk⟩:∃ n,x.piece = n:=⟨_,rfl⟩
  rw [hn] at hs e q1 q2
  rw [hk] at hp e q0 q1 q3 q4
  clear hn hk hc
  obtain ⟨m,hm⟩:∃ m,i * k = m:=⟨_,rfl⟩
  rw [hm] at e q0 q1
  have hw1:IntKind.i64.wrap (i * k) = m:=by rw [hm];exact IntWalk.i64_in _ (by omega)
  have hw2:IntKind.i64.wrap (n - m) = n - m:=IntWalk.i64_in _ (by omega)
  go_wp2
  go_quiet (fail)
  go_wp2
  all_goals
   go_ret3
   refine ⟨?_,hbA.trans (below_drewn _)⟩
   try rw [e]
   first
    | rfl
    | (rw [show min k (n - m) = k by omega];try rfl)
    | (rw [show min k (n - m) = n - m by omega];try rfl)
set_option maxHeartbeats 1600000 in
theorem RSpan_any (x:BlobL) (i:Int) (w:World) (hx:x.ok) (i1:-9223372036854775808 ≤ i) (i2:i ≤ 9223372036854775807) :
  Calls Tryz.prog 147 #[BlobV x,.int .i64 i] w fun e w'=>e = .returned (.tuple #[.int .i64 (spanZ x.size x.piece i).1,.int .i64 (spanZ x.size x.piece i).2.1,.int .i64 (spanZ x.size x.piece i).2.2])∧Below w.heap.size w w':=by
 rw [show BlobV x = .agg x.cells.toArray from rfl]
 obtain ⟨S,hS⟩:∃ S,spanZ x.size x.piece i = S:=⟨_,rfl⟩
 rw [hS]
 have HS:=Lib.hid hS
 clear hS
 go_enter Tryz.func147,Tryz.ntmps147
 go_upto_region 1 with (fail)
 obtain ⟨W,hW⟩:∃ W,w.alloc (.cells x.cells.toArray 81) = W:=⟨_,rfl⟩
 have hbo:=blob_alloc w hx
 have hb:Below w.heap.size w (w.alloc (.cells x.cells.toArray 81)):=(Below.refl _ w).alloc (Nat.le_refl _) _
 rw [hW] at hbo hb ⊢
 have HBO:=Lib.hid hbo
 clear hbo hW
 by_cases h0:i < 0
 ·go_wp2
  go_ret3
  have e:S = (0,0,1):=by rw [← HS.out,spanZ,if_pos (.inl h0)]
  rw [e]
  exact ⟨rfl,hb⟩
 have h0':¬ i < 0:=h0
 go_wp2_with ((with_reducible refine wpList_met (o:=⟨some 11,_,_,_,_,_⟩) ?_ ?_);rfl;intro K hK;refine wp_load_blob (g:=w.heap.size) (x:=x) rfl rfl HBO.out (hK _ _ ?_))
 refine (RCount_any x W hx).mono ?_
 rintro e w2 ⟨rfl,hb2⟩
 have hbA:=below_next hb hb2
 have hbo2:=HBO.out.of_new hb2
 have hs:=hbo2.size
 have hp:=hbo2.piece
 clear hbo2 hb2 hb HBO
 by_cases h1:mcountB x.size x.piece ≤ i
 ·have e:S = (0,0,1):=by rw [← HS.out,spanZ,if_pos (.inr h1)]
  clear HS
  go_wp2
  go_ret3
  rw [e]
  exact ⟨rfl,hbA⟩
 ·have e:S = (i * x.piece,min x.piece (x.size - i * x.piece),0):=by rw [← HS.out,spanZ,if_neg (by omega)]
  obtain ⟨q0,q1,q2,q3,q4⟩:=span_parts (by omega) (Int.not_le.1 h1)
  clear HS
  obtain ⟨c,hc⟩:∃ c,mcountB x.size x.piece = c:=⟨_,rfl⟩
  rw [hc] at h1 ⊢
  have hd:¬ c ≤ i:=h1
  obtain ⟨n,hn⟩:∃ n,x.size = n:=⟨_,rfl⟩
  obtain ⟨k,hk⟩:∃ n,x.piece = n:=⟨_,rfl⟩
  rw [hn] at hs e q1 q2
  rw [hk] at hp e q0 q1 q3 q4
  clear hn hk hc
  obtain ⟨m,hm⟩:∃ m,i * k = m:=⟨_,rfl⟩
  rw [hm] at e q0 q1
  have hw1:IntKind.i64.wrap (i * k) = m:=by rw [hm];exact IntWalk.i64_in _ (by omega)
  have hw2:IntKind.i64.wrap (n - m) = n - m:=IntWalk.i64_in _ (by omega)
  go_wp2
  go_quiet (fail)
  go_wp2
  all_goals
   go_ret3
   refine ⟨?_,hbA.trans (below_drewn _)⟩
   try rw [e]
   first
    | rfl
    | (rw [show min k (n - m) = k by omega];try rfl)
    | (rw [show min k (n - m) = n - m by omega];try rfl)
end Go.Proofs.YtnohglkilpnjhaaGreatDoor
namespace Go.Proofs.YtnohglkilpnjhaaGreatDoor
def digs (l:List BlobL):List (List UInt8):=l.map (·.dig)
def rightsB (l:List BlobL):Bool:=l.all fun x=>mrightB x.size x.piece
def imageE (l:List BlobL):Int:=if l.length < 1∨16 < l.length∨rightsB l = false then 1 else if (digs l).Nodup then 0 else 5
def blobIts (x:BlobL):List It:=[(1,x.dig),(2,uint x.size.toNat),(3,uint x.piece.toNat),(4,x.root)]
def blobB (x:BlobL):List UInt8:=flatB (blobIts x)
def imgItsF:Nat→List BlobL→List It
 | _,[]=>[]
 | i,x :: l=>(((i + 1:Nat):Int),blobB x) :: imgItsF (i + 1) l
def imgIts (l:List BlobL):List It:=imgItsF 0 l
def encG (l:List BlobL):Option (List UInt8):=if imageE l = 0 then encL (imgIts l) else none
def encGE (l:List BlobL):Int:=if imageE l = 0 then (if (encL (imgIts l)).isSome then 0 else 1) else imageE l
theorem imgItsF_snoc:∀ (l:List BlobL) (i:Nat) (x:BlobL),imgItsF i (l ++ [x]) = imgItsF i l ++ [(((i + l.length + 1:Nat):Int),blobB x)]
 | [],i,x=>rfl
 | y :: l,i,x=>by
  simp only [List.cons_append,imgItsF,imgItsF_snoc l (i + 1) x,List.length_cons]
  rw [show i + 1 + l.length + 1 = i + (l.length + 1) + 1 by omega]
theorem right_bd {n k:Int} (h:mrightB n k = true):1 ≤ n∧n ≤ 1048576∧16 ≤ k∧k ≤ 16384:=by
 unfold mrightB at h
 simp only [Bool.and_eq_true,decide_eq_true_eq] at h
 omega
theorem flat_blob (x:BlobL):blobB x = itB (1,x.dig) ++ (itB (2,uint x.size.toNat) ++ (itB (3,uint x.piece.toNat) ++ itB (4,x.root))):=by
 simp [blobB,blobIts,flatB]
theorem enc_blob {x:BlobL} (hx:x.ok) (h1:0 ≤ x.size∧x.size ≤ 1048576) (h2:0 ≤ x.piece∧x.piece ≤ 1048576):encL (blobIts x) = some (blobB x):=by
 have u1:=uint_len 2 x.size.toNat (by omega)
 have u2:=uint_len 2 x.piece.toNat (by omega)
 have hc:checkF (blobIts x) 0 = some (blobIts x):=by
  unfold blobIts
  simp [checkF]
 have:=encF_of (blobIts x) 0 [] hc (by
  rw [List.nil_append]
  show (blobB x).length ≤ 65536
  rw [flat_blob]
  have e1:=uint_len10 (n:=x.dig.length) (by rw [hx.1];omega)
  have e2:=uint_len10 (n:=(uint x.size.toNat).length) (by omega)
  have e3:=uint_len10 (n:=(uint x.piece.toNat).length) (by omega)
  have e4:=uint_len10 (n:=x.root.length) (by rw [hx.2];omega)
  simp only [itB,List.length_append,List.length_cons,hx.1,hx.2] at *
  omega)
 simpa [encL,blobB] using this
theorem image_rights {l:List BlobL} (h:imageE l = 0):∀ x ∈ l,mrightB x.size x.piece = true:=by
 unfold imageE at h
 split at h
 ·cases h
 ·rename_i hc
  have:rightsB l = true:=by
   cases hr:rightsB l
   ·exact absurd (.inr (.inr hr)) hc
   ·rfl
  exact List.all_eq_true.1 this
end Go.Proofs.YtnohglkilpnjhaaGreatDoor
