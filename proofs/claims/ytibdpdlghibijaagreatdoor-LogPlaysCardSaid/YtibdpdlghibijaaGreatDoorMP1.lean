/-
  Engine, part 1: places in a function's code, what is known of a frame, and runs from a place.
-/
import Derived.WalkKit
namespace Go.Eng
open Go
abbrev Env:=List (Nat × Value)
def Env.get:List (Nat × Value)→Nat→Option Value
  | [],_ => none
  | (i,v) :: e,j => bif Nat.beq i j then some v else Env.get e j
def Env.ev (env:Env):Operand→Option Value
  | .tmp t => Env.get env t
  | .const v => some v
  | .global g => some (.pointer (some ⟨g,0,none⟩))
  | .func f => some (.func (.func f) #[] #[])
def Knows (env:Env) (tm:Array Value):Prop:=∀ i v,Env.get env i=some v→tm[i]?=some v
theorem Knows.put {env:Env}{tm:Array Value}(h:Knows env tm) (d:Nat) (v:Value) (hd:d < tm.size):Knows ((d,v) :: env) (tm.setIfInBounds d v):=by
  intro i u hi
  simp only [Env.get] at hi
  rw [Array.getElem?_setIfInBounds]
  cases hb:Nat.beq d i with
  | true =>
    have:d=i:=Nat.eq_of_beq_eq_true hb
    subst this
    rw [hb] at hi; simp only [cond_true,Option.some.injEq] at hi
    subst hi
    rw [if_pos rfl,if_pos hd]
  | false =>
    have hne:d≠i:=by intro e; subst e; simp at hb
    rw [hb] at hi; simp only [cond_false] at hi
    rw [if_neg hne]; exact h i u hi
def fev (tm:Array Value):Operand→Value
  | .tmp t => tm.getD t undef
  | .const v => v
  | .global g => .pointer (some ⟨g,0,none⟩)
  | .func f => .func (.func f) #[] #[]
theorem Knows.ev {env:Env}{tm:Array Value}(h:Knows env tm) {x:Operand}{v:Value}(hx:Env.ev env x=some v):fev tm x=v:=by
  cases x with
  | tmp t =>
    have:=h t v hx
    simp only [fev,Array.getD_eq_getD_getElem?,this,Option.getD_some]
  | const u => simpa [Env.ev,fev] using hx
  | «global» g => simpa [Env.ev,fev] using hx
  | func f => simpa [Env.ev,fev] using hx
def Sub:Env→Env→Prop
  | [],_ => True
  | (i,v) :: l,e => Env.get e i=some v∧Sub l e
theorem Sub.get {l e:Env}(h:Sub l e) {i:Nat}{v:Value}(hi:Env.get l i=some v):Env.get e i=some v:=by
  induction l with
  | nil => simp [Env.get] at hi
  | cons x l ih =>
    obtain⟨j,u⟩:=x
    simp only [Env.get] at hi
    cases hb:Nat.beq j i with
    | true =>
      rw [hb] at hi; simp only [cond_true,Option.some.injEq] at hi
      have:j=i:=Nat.eq_of_beq_eq_true hb
      subst this; subst hi; exact h.1
    | false => rw [hb] at hi; exact ih h.2 hi
theorem Knows.sub {l e:Env}{tm:Array Value}(h:Knows e tm) (hs:Sub l e):Knows l tm:=fun _ _ hi=>h _ _ (hs.get hi)
def child:Code→Nat→Code
  | .seq a b,i => match i with | 0 => a | _ => b
  | .cond _ a b,i => match i with | 0 => a | _ => b
  | .block _ c,_ => c
  | .loop c,_ => c
  | .scope c,_ => c
  | c,_ => c
def sub (c:Code):List Nat→Code
  | [] => c
  | i :: p => child (sub c p) i
def kont (c:Code) (tl:List Item):List Nat→List Item
  | [] => tl
  | i :: p => match sub c p with
    | .seq _ b => (match i with | 0 => [Item.code b] | _ => [])++kont c tl p
    | .block id _ => .inBlock id :: kont c tl p
    | .loop b => .inLoop b :: kont c tl p
    | .scope b => .inScope b :: kont c tl p
    | _ => kont c tl p
structure Loc where
  t:Nat
  p:List Nat
  l:List Nat
def items (c:Code) (tl:List Item) (x:Loc):List Item :=
  match x.t with
  | 0 => .code (sub c x.p) :: kont c tl x.p
  | 1 => kont c tl x.p
  | 2 => (match sub c x.p with | .loop b => [Item.inLoop b] | _ => [])++kont c tl x.p
  | _ => (match sub c x.p with | .region _ ops _ => [Item.inRegion ops x.l] | _ => [])++kont c tl x.p
def exitPos (c:Code) (id:Nat):List Nat→Option (List Nat)
  | [] => none
  | _ :: p => match sub c p with
    | .block id' _ => bif Nat.beq id' id then some p else exitPos c id p
    | _ => exitPos c id p
theorem kont_seq0 {c:Code}{tl:List Item}{p:List Nat}{a b:Code}(h:sub c p=.seq a b):kont c tl (0 :: p)=.code b :: kont c tl p:=by simp [kont,h]
theorem kont_seqS {c:Code}{tl:List Item}{p:List Nat}{a b:Code}{n:Nat}(h:sub c p=.seq a b):kont c tl ((n+1) :: p)=kont c tl p:=by simp [kont,h]
theorem kont_block {c:Code}{tl:List Item}{p:List Nat}{a:Code}{id n:Nat}(h:sub c p=.block id a):kont c tl (n :: p)=.inBlock id :: kont c tl p:=by simp [kont,h]
theorem kont_loop {c:Code}{tl:List Item}{p:List Nat}{a:Code}{n:Nat}(h:sub c p=.loop a):kont c tl (n :: p)=.inLoop a :: kont c tl p:=by simp [kont,h]
theorem kont_scope {c:Code}{tl:List Item}{p:List Nat}{a:Code}{n:Nat}(h:sub c p=.scope a):kont c tl (n :: p)=.inScope a :: kont c tl p:=by simp [kont,h]
theorem kont_cond {c:Code}{tl:List Item}{p:List Nat}{a b:Code}{x:Operand}{n:Nat}(h:sub c p=.cond x a b):kont c tl (n :: p)=kont c tl p:=by simp [kont,h]
theorem kont_else {c:Code}{tl:List Item}{i:Nat}{p:List Nat}(h1:∀ a b,sub c p=.seq a b→False) (h2:∀ id b,sub c p=.block id b→False)
    (h3:∀ b,sub c p=.loop b→False) (h4:∀ b,sub c p=.scope b→False):kont c tl (i :: p)=kont c tl p:=by
  rw [kont]
  split
  · rename_i a b e; exact (h1 a b e).elim
  · rename_i a b e; exact (h2 a b e).elim
  · rename_i b e; exact (h3 b e).elim
  · rename_i b e; exact (h4 b e).elim
  · rfl
theorem exitTo_kont (c:Code) (tl:List Item) (id:Nat):∀ (p q:List Nat),exitPos c id p=some q→exitTo id (kont c tl p)=some (kont c tl q)
  | [],q,h => by simp [exitPos] at h
  | i :: p,q,h => by
    have ih:=exitTo_kont c tl id p q
    rw [exitPos] at h
    split at h
    · rename_i id' b hs
      rw [kont_block hs]
      cases hb:Nat.beq id' id with
      | true =>
        rw [hb] at h; simp only [cond_true,Option.some.injEq] at h
        have e:id'=id:=Nat.eq_of_beq_eq_true hb
        subst e; subst h
        simp [exitTo]
      | false =>
        rw [hb] at h; simp only [cond_false] at h
        have hne:¬ (id'=id):=by intro e; subst e; simp at hb
        simp only [exitTo,beq_iff_eq,hne,if_false]
        exact ih h
    · rename_i hnb
      have:=ih h
      cases hs:sub c p with
      | seq a b => cases i with
        | zero => rw [kont_seq0 hs]; exact this
        | succ n => rw [kont_seqS hs]; exact this
      | block id' b => exact (hnb id' b hs).elim
      | loop b => rw [kont_loop hs]; exact this
      | scope b => rw [kont_scope hs]; exact this
      | _ => rw [kont_else (by simp [hs]) (by simp [hs]) (by simp [hs]) (by simp [hs])]; exact this
structure Ctx where
  P:Program
  fn:FuncId
  rd:Option Nat
  body:Code
  tl:List Item
  nt:Nat
  Φ:List Frame→Machine→Prop
  back:∀ cs m m',step P m=.next m'→Φ cs m'→Φ cs m
def Ctx.fr (C:Ctx) (tm:Array Value) (df:List Deferred) (todo:List Item):Frame :=
  { fn:=C.fn,tmps:=tm,todo,defers:=df,mode:=.run,kind:=.normal,roundOf:=C.rd }
def St (C:Ctx) (todo:List Item) (df:List Deferred) (env:Env) (w:World):Prop :=
  ∀ tm:Array Value,tm.size=C.nt→Knows env tm→∀ cs,C.Φ cs (lone (C.fr tm df todo) cs w)
section steps
variable {C:Ctx}{tm:Array Value}{df:List Deferred}{k:List Item}{cs:List Frame}{w:World}
theorem s_skip:step C.P (lone (C.fr tm df (.code .skip :: k)) cs w)=.next (lone (C.fr tm df k) cs w) :=
  step_lone_go (by simp [stepG,stepG.exec,Ctx.fr])
theorem s_label {l:Nat}:step C.P (lone (C.fr tm df (.code (.label l) :: k)) cs w)=.next (lone (C.fr tm df k) cs w) :=
  step_lone_go (by simp [stepG,stepG.exec,Ctx.fr])
theorem s_inBlock {id:Nat}:step C.P (lone (C.fr tm df (.inBlock id :: k)) cs w)=.next (lone (C.fr tm df k) cs w) :=
  step_lone_go (by simp [stepG,stepG.exec,Ctx.fr])
theorem s_inScope {b:Code}:step C.P (lone (C.fr tm df (.inScope b :: k)) cs w)=.next (lone (C.fr tm df k) cs w) :=
  step_lone_go (by simp [stepG,stepG.exec,Ctx.fr])
theorem s_seq {x y:Code}:step C.P (lone (C.fr tm df (.code (.seq x y) :: k)) cs w)=.next (lone (C.fr tm df (.code x :: .code y :: k)) cs w) :=
  step_lone_go (by simp [stepG,stepG.exec,Ctx.fr])
theorem s_block {id:Nat}{c:Code}:step C.P (lone (C.fr tm df (.code (.block id c) :: k)) cs w)=.next (lone (C.fr tm df (.code c :: .inBlock id :: k)) cs w) :=
  step_lone_go (by simp [stepG,stepG.exec,Ctx.fr])
theorem s_scope {c:Code}:step C.P (lone (C.fr tm df (.code (.scope c) :: k)) cs w)=.next (lone (C.fr tm df (.code c :: .inScope c :: k)) cs w) :=
  step_lone_go (by simp [stepG,stepG.exec,Ctx.fr])
theorem s_loop {c:Code}:step C.P (lone (C.fr tm df (.code (.loop c) :: k)) cs w)=.next (lone (C.fr tm df (.code c :: .inLoop c :: k)) cs w) :=
  step_lone_go (by simp [stepG,stepG.exec,Ctx.fr])
theorem s_inLoop {c:Code}:step C.P (lone (C.fr tm df (.inLoop c :: k)) cs w)=.next (lone (C.fr tm df (.code c :: .inLoop c :: k)) cs w) :=
  step_lone_go (by simp [stepG,stepG.exec,Ctx.fr])
theorem s_exit {id:Nat}{k':List Item}(h:exitTo id k=some k'):step C.P (lone (C.fr tm df (.code (.exit id) :: k)) cs w)=.next (lone (C.fr tm df k') cs w) :=
  step_lone_go (by simp [stepG,stepG.exec,Ctx.fr,h])
theorem s_region {id:Nat}{ops:Array Oper}:step C.P (lone (C.fr tm df (.code (.region id ops false) :: k)) cs w)=.next (lone (C.fr tm df (.inRegion ops (List.range ops.size) :: k)) cs w) :=
  step_lone_go (by simp [stepG,stepG.exec,Ctx.fr])
theorem s_regionEnd {ops:Array Oper}:step C.P (lone (C.fr tm df (.inRegion ops [] :: k)) cs w)=.next (lone (C.fr tm df k) cs w) :=
  step_lone_go (by simp [stepG,stepG.exec,Ctx.fr])
theorem s_cond {c:Operand}{x y:Code}{t:Bool}(h:fev tm c=.bool t) :
    step C.P (lone (C.fr tm df (.code (.cond c x y) :: k)) cs w)=.next (lone (C.fr tm df (.code (if t then x else y) :: k)) cs w) :=
  step_lone_go (by
    have:Frame.eval (C.fr tm df (.code (.cond c x y) :: k)) c=.bool t:=by rw [← h]; cases c <;> rfl
    simp only [Ctx.fr] at this
    simp [stepG,stepG.exec,Ctx.fr,this])
end steps
def adv (c:Code):Loc→Option Loc
  | ⟨t,p,l⟩ => match t with
    | 0 => match sub c p with
      | .seq _ _ => some ⟨0,0 :: p,[]⟩
      | .block _ _ => some ⟨0,0 :: p,[]⟩
      | .scope _ => some ⟨0,0 :: p,[]⟩
      | .skip => some ⟨1,p,[]⟩
      | .label _ => some ⟨1,p,[]⟩
      | .exit id => match exitPos c id p with
        | some q => some ⟨1,q,[]⟩
        | none => none
      | .region _ ops d => match d with
        | false => some ⟨3,p,List.range ops.size⟩
        | true => none
      | _ => none
    | 1 => match p with
      | [] => none
      | i :: p => match sub c p with
        | .seq _ _ => match i with
          | 0 => some ⟨0,1 :: p,[]⟩
          | _ => some ⟨1,p,[]⟩
        | .loop _ => some ⟨2,p,[]⟩
        | .block _ _ => some ⟨1,p,[]⟩
        | .scope _ => some ⟨1,p,[]⟩
        | _ => some ⟨1,p,[]⟩
    | 2 => none
    | _ => match sub c p with
      | .region _ _ _ => match l with
        | [] => some ⟨1,p,[]⟩
        | _ => none
      | _ => none
theorem sub_seq0 {c:Code}{p:List Nat}{a b:Code}(h:sub c p=.seq a b):sub c (0 :: p)=a:=by simp [sub,h,child]
theorem sub_seq1 {c:Code}{p:List Nat}{a b:Code}(h:sub c p=.seq a b):sub c (1 :: p)=b:=by simp [sub,h,child]
theorem sub_block {c:Code}{p:List Nat}{a:Code}{id n:Nat}(h:sub c p=.block id a):sub c (n :: p)=a:=by simp [sub,h,child]
theorem sub_loop {c:Code}{p:List Nat}{a:Code}{n:Nat}(h:sub c p=.loop a):sub c (n :: p)=a:=by simp [sub,h,child]
theorem sub_scope {c:Code}{p:List Nat}{a:Code}{n:Nat}(h:sub c p=.scope a):sub c (n :: p)=a:=by simp [sub,h,child]
theorem sub_cond0 {c:Code}{p:List Nat}{a b:Code}{x:Operand}(h:sub c p=.cond x a b):sub c (0 :: p)=a:=by simp [sub,h,child]
theorem sub_cond1 {c:Code}{p:List Nat}{a b:Code}{x:Operand}(h:sub c p=.cond x a b):sub c (1 :: p)=b:=by simp [sub,h,child]
theorem adv_ok {C:Ctx}{x y:Loc}(h:adv C.body x=some y) {df:List Deferred}{env:Env}{w:World}
    (hk:St C (items C.body C.tl y) df env w):St C (items C.body C.tl x) df env w:=by
  intro tm hs hn cs
  have hk':=hk tm hs hn cs
  clear hk
  obtain⟨t,p,l⟩:=x
  match t,h,hk' with
  | 0,h,hk' =>
    simp only [adv] at h
    simp only [items]
    split at h
    · rename_i a b hsub
      cases h
      simp only [items,kont_seq0 hsub,sub_seq0 hsub] at hk'
      rw [hsub]; exact C.back _ _ _ s_seq hk'
    · rename_i id b hsub
      cases h
      simp only [items,kont_block hsub,sub_block hsub] at hk'
      rw [hsub]; exact C.back _ _ _ s_block hk'
    · rename_i b hsub
      cases h
      simp only [items,kont_scope hsub,sub_scope hsub] at hk'
      rw [hsub]; exact C.back _ _ _ s_scope hk'
    · rename_i hsub
      cases h
      rw [hsub]; exact C.back _ _ _ s_skip hk'
    · rename_i l hsub
      cases h
      rw [hsub]; exact C.back _ _ _ s_label hk'
    · rename_i id hsub
      split at h
      · rename_i q hq
        cases h
        rw [hsub]; exact C.back _ _ _ (s_exit (exitTo_kont _ _ _ _ _ hq)) hk'
      · cases h
    · rename_i id ops d hsub
      split at h
      · cases h
        simp only [items,hsub,List.cons_append,List.nil_append] at hk'
        rw [hsub]; exact C.back _ _ _ s_region hk'
      · cases h
    · cases h
  | 1,h,hk' =>
    cases p with
    | nil => simp [adv] at h
    | cons i p =>
      simp only [adv] at h
      simp only [items]
      split at h
      · rename_i a b hsub
        cases i with
        | zero =>
          cases h
          simp only [items,sub_seq1 hsub,kont_seqS (n:=0) hsub] at hk'
          rw [kont_seq0 hsub]; exact hk'
        | succ n =>
          cases h
          rw [kont_seqS hsub]; exact hk'
      · rename_i b hsub
        cases h
        simp only [items,hsub,List.cons_append,List.nil_append] at hk'
        rw [kont_loop hsub]; exact hk'
      · rename_i id b hsub
        cases h
        rw [kont_block hsub]; exact C.back _ _ _ s_inBlock hk'
      · rename_i b hsub
        cases h
        rw [kont_scope hsub]; exact C.back _ _ _ s_inScope hk'
      · rename_i h1 h2 h3 h4
        cases h
        rw [kont_else h1 h3 h2 h4]; exact hk'
  | 2,h,_ => simp [adv] at h
  | t+3,h,hk' =>
    simp only [adv] at h
    split at h
    · rename_i id ops d hsub
      split at h
      · cases h
        simp only [items,hsub,List.cons_append,List.nil_append]
        exact C.back _ _ _ s_regionEnd hk'
      · cases h
    · cases h
end Go.Eng
namespace Go.Eng
open Go
def bl (s:ByteArray):List UInt8:=s.data.toList
def str (l:List UInt8):Value:=.string ⟨l.toArray⟩
theorem mk_bl (s:ByteArray):(⟨(bl s).toArray⟩:ByteArray)=s:=by simp [bl]
theorem size_bl (s:ByteArray):s.size=(bl s).length:=by simp only [bl,Array.length_toList]; rfl
def Agree (env:Env) (ρ:Operand→Value):Prop:=∀ x v,Env.ev env x=some v→ρ x=v
def kc:IntKind→Nat
  | .i8 => 0 | .i16 => 1 | .i32 => 2 | .i64 => 3 | .u8 => 4 | .u16 => 5 | .u32 => 6 | .u64 => 7
theorem kc_eq {a b:IntKind}(h:Nat.beq (kc a) (kc b)=true):a=b:=by
  cases a <;> cases b <;> first | rfl | (simp [kc] at h)
def inK:IntKind→Int→Prop
  | .i8,x => -128≤x∧x≤127
  | .i16,x => -32768≤x∧x≤32767
  | .i32,x => -2147483648≤x∧x≤2147483647
  | .i64,x => -9223372036854775808≤x∧x≤9223372036854775807
  | .u8,x => 0≤x∧x≤255
  | .u16,x => 0≤x∧x≤65535
  | .u32,x => 0≤x∧x≤4294967295
  | .u64,x => 0≤x∧x≤18446744073709551615
theorem wrap_of_in {k:IntKind}{x:Int}(h:inK k x):k.wrap x=x:=by
  cases k <;> simp only [inK] at h <;> simp only [IntKind.wrap,IntKind.bits,IntKind.signed] <;> simp <;> omega
def wr (nw:Bool) (k:IntKind) (x:Int):Value × Prop:=match nw with
  | true => (.int k x,inK k x)
  | false => (.int k (k.wrap x),True)
theorem wr_ok {nw:Bool}{k:IntKind}{x:Int}{v:Value}{ob:Prop}(h:wr nw k x=(v,ob)) (ho:ob):v=.int k (k.wrap x):=by
  cases nw <;> simp only [wr,Prod.mk.injEq] at h <;> obtain⟨rfl,rfl⟩:=h
  · rfl
  · rw [wrap_of_in ho]
def iand (k:IntKind) (x y:Int):Int:=k.wrap (BitVec.ofInt k.bits x &&& BitVec.ofInt k.bits y).toNat
def ior (k:IntKind) (x y:Int):Int:=k.wrap (BitVec.ofInt k.bits x ||| BitVec.ofInt k.bits y).toNat
def ixor (k:IntKind) (x y:Int):Int:=k.wrap (BitVec.ofInt k.bits x ^^^ BitVec.ofInt k.bits y).toNat
def iandn (k:IntKind) (x y:Int):Int:=k.wrap (BitVec.ofInt k.bits x &&& ~~~ BitVec.ofInt k.bits y).toNat
def pInt (nw:Bool) (op:BinOp) (k:IntKind) (a b:Int):Option (Value × Prop):=match op with
  | .add => some (wr nw k (a+b))
  | .sub => some (wr nw k (a - b))
  | .mul => some (wr nw k (a * b))
  | .quo => match nw with
    | true => some (.int k (a / b),0≤a∧0 < b∧inK k a)
    | false => some (.int k (k.wrap (a.tdiv b)),b≠0)
  | .rem => match nw with
    | true => some (.int k (a % b),0≤a∧0 < b)
    | false => some (.int k (a.tmod b),b≠0)
  | .and => some (.int k (iand k a b),True)
  | .or => some (.int k (ior k a b),True)
  | .xor => some (.int k (ixor k a b),True)
  | .andNot => some (.int k (iandn k a b),True)
  | .eql => some (.bool (decide (a=b)),True)
  | .neq => some (.bool (!decide (a=b)),True)
  | .lss => some (.bool (decide (a < b)),True)
  | .leq => some (.bool (decide (a≤b)),True)
  | .gtr => some (.bool (decide (b < a)),True)
  | .geq => some (.bool (decide (b≤a)),True)
  | _ => none
def pShift (op:BinOp) (k:IntKind) (a b:Int):Option (Value × Prop):=match op with
  | .shl => some (.int k (k.wrap (a * 2 ^ (min b.toNat k.bits))),0≤b)
  | .shr => some (.int k (a / 2 ^ (min b.toNat k.bits)),0≤b)
  | _ => none
def pStr (op:BinOp) (a b:ByteArray):Option (Value × Prop):=match op with
  | .add => some (.string ⟨(bl a++bl b).toArray⟩,(bl a).length+(bl b).length≤9223372036854775807)
  | .eql => some (.bool (decide (bl a=bl b)),True)
  | .neq => some (.bool (!decide (bl a=bl b)),True)
  | .lss => some (.bool (Op.bytesLess (bl a) (bl b)),True)
  | .geq => some (.bool (!Op.bytesLess (bl a) (bl b)),True)
  | .leq => some (.bool (Op.bytesLess (bl a) (bl b) || decide (bl a=bl b)),True)
  | .gtr => some (.bool (!(Op.bytesLess (bl a) (bl b) || decide (bl a=bl b))),True)
  | _ => none
def pNil (d:Option TypeDesc) (x y:Value):Option Bool:=match d with
  | some (.pointer _) => match x,y with
    | .pointer none,.pointer none => some true
    | .pointer (some _),.pointer none => some false
    | .pointer none,.pointer (some _) => some false
    | _,_ => none
  | some (.slice _) => match x,y with
    | .slice none _ _,.slice none _ _ => some true
    | .slice (some _) _ _,.slice none _ _ => some false
    | _,_ => none
  | some (.map _ _) => match x,y with
    | .map none,.map none => some true
    | .map (some _),.map none => some false
    | _,_ => none
  | some (.func _ _ _) => match x,y with
    | .nilFunc,.nilFunc => some true
    | .func _ _ _,.nilFunc => some false
    | _,_ => none
  | some .bool => match x,y with
    | .bool a,.bool b => some (a == b)
    | _,_ => none
  | _ => none
def pBin (P:Program) (nw:Bool) (op:BinOp) (t:TypeId) (x y:Value):Option (Value × Prop) :=
  match x,y with
  | .int k a,.int k' b => match op with
    | .shl => pShift op k a b
    | .shr => pShift op k a b
    | _ => bif Nat.beq (kc k) (kc k') then pInt nw op k a b else none
  | .string a,.string b => pStr op a b
  | _,_ => match op with
    | .eql => match pNil (P.underlying t) x y with
      | some b => some (.bool b,True)
      | none => none
    | .neq => match pNil (P.underlying t) x y with
      | some b => some (.bool (!b),True)
      | none => none
    | _ => none
theorem eqGuard_int {op:BinOp}{t:TypeId}{x y:Operand}{k:IntKind}{a:Int}{v:Value}:eqGuard op t x y (.int k a) v=pure ():=by cases op <;> rfl
section
variable {P:Program}{w:World}
theorem pInt_ok {nw:Bool}{op:BinOp}{k:IntKind}{a b:Int}{v:Value}{ob:Prop}{t:TypeId}(h1:op≠.shl) (h2:op≠.shr) (h:pInt nw op k a b=some (v,ob)) (ho:ob) :
    (binOp op t (.int k a) (.int k b)).run P w=.ok v w:=by
  cases op <;> simp only [pInt,Option.some.injEq,Prod.mk.injEq,reduceCtorEq] at h
  case add=>have:=wr_ok h ho; subst this; simp [binOp,Op.intArith]
  case sub=>have:=wr_ok h ho; subst this; simp [binOp,Op.intArith]
  case mul=>have:=wr_ok h ho; subst this; simp [binOp,Op.intArith]
  case quo =>
    cases nw
    · simp only [Option.some.injEq,Prod.mk.injEq] at h
      obtain⟨rfl,rfl⟩:=h
      simp [binOp,Op.intDiv,show ¬ b=0 from ho]
    · simp only [Option.some.injEq,Prod.mk.injEq] at h
      obtain⟨rfl,rfl⟩:=h
      obtain⟨h0,hb,hk⟩:=ho
      have e:a.tdiv b=a / b:=by rw [Int.tdiv_eq_ediv_of_nonneg h0]
      have hle:a / b≤a:=Int.ediv_le_self _ h0
      have hge:0≤a / b:=Int.ediv_nonneg h0 (by omega)
      have hin:inK k (a / b):=by cases k <;> simp only [inK] at hk ⊢ <;> omega
      simp [binOp,Op.intDiv,show ¬ b=0 by omega,e,wrap_of_in hin]
  case rem =>
    cases nw
    · simp only [Option.some.injEq,Prod.mk.injEq] at h
      obtain⟨rfl,rfl⟩:=h
      simp [binOp,Op.intDiv,show ¬ b=0 from ho]
    · simp only [Option.some.injEq,Prod.mk.injEq] at h
      obtain⟨rfl,rfl⟩:=h
      obtain⟨h0,hb⟩:=ho
      simp [binOp,Op.intDiv,show ¬ b=0 by omega,Int.tmod_eq_emod_of_nonneg h0]
  all_goals first
    | (obtain⟨rfl,rfl⟩:=h; simp [binOp,Op.intBits,iand]; done)
    | (obtain⟨rfl,rfl⟩:=h; simp [binOp,Op.intBits,ior]; done)
    | (obtain⟨rfl,rfl⟩:=h; simp [binOp,Op.intBits,ixor]; done)
    | (obtain⟨rfl,rfl⟩:=h; simp [binOp,Op.intBits,iandn]; done)
    | (obtain⟨rfl,rfl⟩:=h; simp [binOp,Op.intCmp,bne]; done)
    | (obtain⟨rfl,rfl⟩:=h; simp [binOp,Op.intCmp,bne]; rfl)
    | exact absurd rfl h1
    | exact absurd rfl h2
theorem pShift_ok {op:BinOp}{k k':IntKind}{a b:Int}{v:Value}{ob:Prop}{t:TypeId}(h:pShift op k a b=some (v,ob)) (ho:ob) :
    (binOp op t (.int k a) (.int k' b)).run P w=.ok v w:=by
  cases op <;> simp only [pShift,Option.some.injEq,Prod.mk.injEq,reduceCtorEq] at h
  case shl=>obtain⟨rfl,rfl⟩:=h; simp [binOp,Op.shift,show ¬ b < 0 by omega]
  case shr =>
    obtain⟨rfl,rfl⟩:=h
    have:a.fdiv (2 ^ (min b.toNat k.bits))=a / 2 ^ (min b.toNat k.bits):=Int.fdiv_eq_ediv_of_nonneg _ (Int.le_of_lt (Int.pow_pos (by decide)))
    simp [binOp,Op.shift,show ¬ b < 0 by omega,this]
theorem beq_list_decide (a b:List UInt8):(a == b)=decide (a=b):=by
  by_cases h:a=b <;> simp [h]
theorem append_mk (a b:ByteArray):(⟨(bl a++bl b).toArray⟩:ByteArray)=a++b:=by
  apply ByteArray.ext
  simp [bl,ByteArray.data_append]
theorem pStr_ok {op:BinOp}{a b:ByteArray}{v:Value}{ob:Prop}{t:TypeId}(h:pStr op a b=some (v,ob)) (ho:ob) :
    (binOp op t (.string a) (.string b)).run P w=.ok v w:=by
  have ea:a.toList=bl a:=ByteArray.toList_eq a
  have eb:b.toList=bl b:=ByteArray.toList_eq b
  cases op <;> simp only [pStr,Option.some.injEq,Prod.mk.injEq,reduceCtorEq] at h
  case add =>
    obtain⟨rfl,rfl⟩:=h
    have:¬ (((a.size+b.size:Nat):Int) > IntKind.i64.max):=by
      rw [size_bl,size_bl]; simp only [IntKind.max_i64]; omega
    simp only [binOp,Op.stringOp,if_neg this,append_mk]; rfl
  all_goals (obtain⟨rfl,rfl⟩:=h; simp [binOp,Op.stringOp,ea,eb,beq_list_decide])
theorem pNil_in {t:TypeId}{x y:Value}{b:Bool}(d:Nat) (h:pNil (P.underlying t) x y=some b):(Op.equalIn (d+1) t x y).run P w=.ok b w:=by
  cases hu:P.underlying t with
  | none => rw [hu] at h; cases h
  | some u =>
    rw [hu] at h
    rw [Op.equalIn]
    simp only [Sem.run_bind,run_underlying hu,Result.andThen_ok]
    unfold pNil at h
    split at h <;> (try split at h) <;> first
      | (cases h; done)
      | (rename_i hu'; cases hu'; cases h; rfl)
      | (cases h; rfl)
      | (cases h; simp_all)
theorem pNil_ok {t:TypeId}{x y:Value}{b:Bool}(h:pNil (P.underlying t) x y=some b):(Op.equal t x y).run P w=.ok b w:=pNil_in 9999 h
end
def aggT (P:Program) (t:TypeId):Option Bool:=match P.underlying t with
  | some (.struct _) => some true
  | some (.array _ _) => some true
  | some _ => some false
  | none => none
theorem aggT_ok {P:Program}{w:World}{t:TypeId}{b:Bool}(h:aggT P t=some b):(isAgg t).run P w=.ok b w:=by
  unfold aggT at h
  unfold isAgg
  cases hu:P.underlying t with
  | none => rw [hu] at h; cases h
  | some u =>
    rw [hu] at h
    simp only [Sem.run_bind,run_underlying hu,Result.andThen_ok]
    cases u <;> simp only [Option.some.injEq] at h <;> subst h <;> rfl
def litN (n:Nat):Option Nat:=bif Nat.beq n 1 then some 1 else bif Nat.beq n 2 then some 2 else bif Nat.beq n 3 then some 3 else bif Nat.beq n 4 then some 4 else bif Nat.beq n 5 then some 5 else bif Nat.beq n 6 then some 6
  else bif Nat.beq n 7 then some 7 else bif Nat.beq n 8 then some 8 else bif Nat.beq n 9 then some 9 else bif Nat.beq n 10 then some 10 else bif Nat.beq n 11 then some 11 else bif Nat.beq n 12 then some 12 else some n
theorem litN_eq (n:Nat):litN n=some n:=by
  unfold litN
  have key:∀ (k:Nat) (o:Option Nat),o=some n→(bif Nat.beq n k then some k else o)=some n:=by
    intro k o ho
    cases h:Nat.beq n k with
    | true => rw [Nat.eq_of_beq_eq_true h]; rfl
    | false => exact ho
  repeat (refine key _ _ ?_)
  rfl
def szT (P:Program) (t:TypeId):Option Nat:=match P.info? t with
  | some i => litN i.size
  | none => none
theorem szT_ok {P:Program}{w:World}{t:TypeId}{n:Nat}(h:szT P t=some n):(sizeOf t).run P w=.ok n w:=by
  unfold szT at h
  unfold sizeOf typeInfo
  cases hi:P.info? t with
  | none => rw [hi] at h; cases h
  | some i => rw [hi] at h; simp only [litN_eq,Option.some.injEq] at h; subst h; simp [hi]
def nth {α:Type}:List α→Nat→Option α
  | [],_ => none
  | x :: l,i => match i with
    | 0 => some x
    | i+1 => nth l i
theorem nth_eq {α:Type}:∀ (l:List α) (i:Nat),nth l i=l[i]?
  | [],i => by simp [nth]
  | x :: l,0 => by simp [nth]
  | x :: l,i+1 => by simp [nth,nth_eq l i]
def takeL {α:Type}:Nat→List α→List α
  | 0,_ => []
  | n+1,l => match l with
    | [] => []
    | x :: l => x :: takeL n l
theorem takeL_eq {α:Type}:∀ (n:Nat) (l:List α),takeL n l=l.take n
  | 0,l => by simp [takeL]
  | n+1,[] => by simp [takeL]
  | n+1,x :: l => by simp [takeL,takeL_eq n l]
def dropL {α:Type}:Nat→List α→List α
  | 0,l => l
  | n+1,l => match l with
    | [] => []
    | _ :: l => dropL n l
theorem dropL_eq {α:Type}:∀ (n:Nat) (l:List α),dropL n l=l.drop n
  | 0,l => by simp [dropL]
  | n+1,[] => by simp [dropL]
  | n+1,x :: l => by simp [dropL,dropL_eq n l]
def pPart (P:Program) (t:TypeId) (cs:List Value) (off:Nat):Option Value:=match aggT P t with
  | some true => match szT P t with
    | some n => some (.agg ⟨takeL n (dropL off cs)⟩)
    | none => none
  | some false => nth cs off
  | none => none
theorem pPart_ok {P:Program}{w:World}{t:TypeId}{cs:List Value}{off:Nat}{v:Value}(h:pPart P t cs off=some v) :
    (part t ⟨cs⟩ off).run P w=.ok v w:=by
  unfold pPart at h
  unfold part
  split at h
  · rename_i ha
    split at h
    · rename_i n hn
      cases h
      simp only [Sem.run_bind,aggT_ok ha,Result.andThen_ok,if_true,szT_ok hn,Sem.run_pure,takeL_eq,dropL_eq]
      congr 2
      apply Array.ext'
      simp [List.extract_eq_take_drop]
    · cases h
  · rename_i ha
    rw [nth_eq] at h
    simp only [Sem.run_bind,aggT_ok ha,Result.andThen_ok,Bool.false_eq_true,if_false]
    have:(⟨cs⟩:Array Value)[off]?=some v:=by simpa using h
    rw [this]; rfl
  · cases h
def pField (P:Program) (s:TypeId) (x:Value) (f:Nat):Option Value:=match P.underlying s with
  | some (.struct ⟨fs⟩) => match nth fs f with
    | some fd => match x with
      | .agg ⟨cs⟩ => pPart P fd.type cs fd.offset
      | _ => none
    | none => none
  | _ => none
theorem pField_ok {P:Program}{w:World}{s:TypeId}{x:Value}{f:Nat}{v:Value}(h:pField P s x f=some v):(Instr.field s x f).run P w=.ok v w:=by
  unfold pField at h
  split at h
  · rename_i fs hu
    split at h
    · rename_i fd hfd
      split at h
      · rename_i cs
        rw [nth_eq] at hfd
        have hfd':(⟨fs⟩:Array Field)[f]?=some fd:=by simpa using hfd
        simp [Instr.field,run_underlying hu,hfd',asAgg,pPart_ok h]
      · cases h
    · cases h
  · cases h
def pFieldAddr (P:Program) (s:TypeId) (x:Value) (f:Nat):Option Value:=match P.underlying s with
  | some (.struct ⟨fs⟩) => match nth fs f with
    | some fd => match szT P fd.type with
      | some (_+1) => match x with
        | .pointer (some ⟨b,o,none⟩) => some (.pointer (some ⟨b,o+fd.offset,none⟩))
        | _ => none
      | _ => none
    | none => none
  | _ => none
theorem pFieldAddr_ok {P:Program}{w:World}{s:TypeId}{x:Value}{f:Nat}{v:Value}(h:pFieldAddr P s x f=some v):(Instr.fieldAt s x f).run P w=.ok v w:=by
  unfold pFieldAddr at h
  split at h
  · rename_i fs hu
    split at h
    · rename_i fd hfd
      split at h
      · rename_i n hn
        split at h
        · cases h
          rw [nth_eq] at hfd
          have hfd':(⟨fs⟩:Array Field)[f]?=some fd:=by simpa using hfd
          simp [Instr.fieldAt,run_underlying hu,hfd',Instr.sureAddr,fieldPlace,szT_ok hn,Addr.add_lit]
        · cases h
      · cases h
    · cases h
  · cases h
def pIndexAddr (P:Program) (t:TypeId) (x:Value) (i:Value):Option (Value × Prop):=match i with
  | .int _ i => match P.underlying t with
    | some (.slice e) => match x with
      | .slice (some ⟨b,o,none⟩) len _ => match szT P e with
        | some n => some (.pointer (some ⟨b,o+i.toNat * n,none⟩),0≤i∧i < (len:Int))
        | none => none
      | _ => none
    | some (.array len e) => match x with
      | .pointer (some ⟨b,o,none⟩) => match szT P e with
        | some n => some (.pointer (some ⟨b,o+i.toNat * n,none⟩),0≤i∧i < (len:Int))
        | none => none
      | _ => none
    | _ => none
  | _ => none
theorem pIndexAddr_ok {P:Program}{w:World}{t:TypeId}{x i:Value}{v:Value}{ob:Prop}(h:pIndexAddr P t x i=some (v,ob)) (ho:ob):(Instr.indexAt t x i).run P w=.ok v w:=by
  unfold pIndexAddr at h
  split at h
  · split at h
    · rename_i e hu
      split at h
      · split at h
        · rename_i n hn
          simp only [Option.some.injEq,Prod.mk.injEq] at h
          obtain⟨rfl,rfl⟩:=h
          simp [Instr.indexAt,asIntOf,run_underlying hu,ho,szT_ok hn,Addr.add_lit]
        · cases h
      · cases h
    · rename_i len e hu
      split at h
      · split at h
        · rename_i n hn
          simp only [Option.some.injEq,Prod.mk.injEq] at h
          obtain⟨rfl,rfl⟩:=h
          simp [Instr.indexAt,asIntOf,run_underlying hu,ho,szT_ok hn,Addr.add_lit,Instr.sureAddr]
        · cases h
      · cases h
    · cases h
  · cases h
def pIndex (P:Program) (t:TypeId) (x i:Value):Option (Value × Prop):=match P.underlying t with
  | some .string => match x with
    | .string s => match i with
      | .int _ i => some (.int .u8 (((bl s)[i.toNat]?.getD 0).toNat:Int),0≤i∧i < ((bl s).length:Int))
      | _ => none
    | _ => none
  | _ => none
theorem pIndex_ok {P:Program}{w:World}{t:TypeId}{x i:Value}{v:Value}{ob:Prop}(h:pIndex P t x i=some (v,ob)) (ho:ob):(Instr.index t x i).run P w=.ok v w:=by
  unfold pIndex at h
  split at h
  · rename_i hu
    split at h
    · rename_i s
      split at h
      · rename_i k i
        simp only [Option.some.injEq,Prod.mk.injEq] at h
        obtain⟨rfl,rfl⟩:=h
        obtain⟨h0,h1⟩:=ho
        have hlt:i.toNat < s.size:=by rw [size_bl]; omega
        have e2:(bl s)[i.toNat]?.getD 0=s[i.toNat]:=by
          have:i.toNat < (bl s).length:=by omega
          rw [List.getElem?_eq_getElem this]; rfl
        simp [Instr.index,asIntOf,run_underlying hu,h0,ByteArray.getElem?_lt' s _ hlt,e2]
      · cases h
    · cases h
  · cases h
def pLen (P:Program) (t:TypeId) (x:Value):Option Value:=match P.underlying t with
  | some .string => match x with
    | .string s => some (.int .i64 ((bl s).length:Int))
    | _ => none
  | some (.slice _) => match x with
    | .slice _ n _ => some (.int .i64 (n:Int))
    | _ => none
  | some (.array n _) => some (.int .i64 (n:Int))
  | some (.map _ _) => match x with
    | .map none => some (.int .i64 0)
    | _ => none
  | _ => none
theorem pLen_ok {P:Program}{w:World}{t ty:TypeId}{x:Value}{v:Value}(h:pLen P t x=some v):(Builtin.len_ #[t] ty #[x]).run P w=.ok v w:=by
  unfold pLen at h
  split at h
  · rename_i hu
    split at h <;> cases h
    simp [Builtin.len_,run_underlying hu,goInt,size_bl]
  · rename_i hu
    split at h <;> cases h
    simp [Builtin.len_,run_underlying hu,goInt]
  · rename_i hu
    cases h
    simp [Builtin.len_,run_underlying hu,goInt]
  · rename_i hu
    split at h <;> cases h
    simp [Builtin.len_,run_underlying hu,goInt]
  · cases h
def pConv (P:Program) (nw:Bool) (s d:TypeId) (x:Value):Option (Value × Prop):=match P.underlying s with
  | some us => match P.underlying d with
    | some (.int k) => match x with
      | .int _ n => some (wr nw k n)
      | _ => none
    | some .string => match us with
      | .string => match x with
        | .string b => some (.string b,True)
        | _ => none
      | _ => none
    | _ => none
  | none => none
theorem pConv_ok {P:Program}{w:World}{nw:Bool}{s d:TypeId}{x:Value}{v:Value}{ob:Prop}(h:pConv P nw s d x=some (v,ob)) (ho:ob):(convert s d x).run P w=.ok v w:=by
  unfold pConv at h
  split at h
  · rename_i us hs
    split at h
    · rename_i k hd
      split at h
      · simp only [Option.some.injEq] at h
        have:=wr_ok h ho
        subst this
        simp [convert,run_underlying hs,run_underlying hd,Conv.intToInt]
      · cases h
    · rename_i hd
      split at h
      · split at h
        · simp only [Option.some.injEq,Prod.mk.injEq] at h
          obtain⟨rfl,rfl⟩:=h
          simp [convert,run_underlying hs,run_underlying hd]
        · cases h
      · cases h
    · cases h
  · cases h
def pUn (nw:Bool) (op:UnOp) (x:Value):Option (Value × Prop):=match op with
  | .neg => match x with
    | .int k n => some (wr nw k (0 - n))
    | _ => none
  | .not => match x with
    | .bool b => some (.bool (!b),True)
    | _ => none
  | .xor => match x with
    | .int k n => some (.int k (ixor k (match k.signed with | true => -1 | false => k.max) n),True)
    | _ => none
  | _ => none
theorem pUn_ok {P:Program}{w:World}{nw:Bool}{op:UnOp}{x:Value}{v:Value}{ob:Prop}(h:pUn nw op x=some (v,ob)) (ho:ob):(Op.unary op x).run P w=.ok v w:=by
  cases op <;> simp only [pUn,reduceCtorEq] at h
  case neg =>
    split at h
    · simp only [Option.some.injEq] at h
      have:=wr_ok h ho
      subst this
      simp [Op.unary,Op.intArith]
    · cases h
  case xor =>
    split at h
    · simp only [Option.some.injEq,Prod.mk.injEq] at h
      obtain⟨rfl,rfl⟩:=h
      rename_i k n
      cases hk:k.signed <;> simp [Op.unary,Op.intBits,ixor,hk]
    · cases h
  case not =>
    split at h
    · simp only [Option.some.injEq,Prod.mk.injEq] at h
      obtain⟨rfl,rfl⟩:=h
      simp [Op.unary]
    · cases h
def pSlice (P:Program) (t:TypeId) (x:Value) (lo hi:Option Value):Option (Value × Prop):=match P.underlying t with
  | some .string => match x with
    | .string s => match lo with
      | none => match hi with
        | none => some (.string s,True)
        | some (.int _ h) => some (str ((bl s).take h.toNat),0≤h∧h≤((bl s).length:Int))
        | _ => none
      | some (.int _ l) => match hi with
        | none => some (str ((bl s).drop l.toNat),0≤l∧l≤((bl s).length:Int))
        | some (.int _ h) => some (str (((bl s).drop l.toNat).take (h.toNat - l.toNat)),0≤l∧l≤h∧h≤((bl s).length:Int))
        | _ => none
      | _ => none
    | _ => none
  | some (.slice e) => match x with
    | .slice a len cap => match szT P e with
      | some n => match lo with
        | none => match hi with
          | none => some (.slice a len cap,True)
          | some (.int _ h) => some (.slice a h.toNat cap,0≤h∧h≤(cap:Int))
          | _ => none
        | some (.int _ l) => match a with
          | some ⟨b,o,none⟩ => match hi with
            | none => some (.slice (some ⟨b,o+l.toNat * n,none⟩) (len - l.toNat) (cap - l.toNat),0≤l∧l≤(len:Int)∧l < (cap:Int))
            | some (.int _ h) => some (.slice (some ⟨b,o+l.toNat * n,none⟩) (h.toNat - l.toNat) (cap - l.toNat),0≤l∧l≤h∧h≤(cap:Int)∧l < (cap:Int))
            | _ => none
          | _ => none
        | _ => none
      | none => none
    | _ => none
  | some (.array n e) => match x with
    | .pointer p => match p with
      | some ⟨b,o,none⟩ => match szT P e with
        | some _ => match lo with
          | none => match hi with
            | none => some (.slice (some ⟨b,o,none⟩) n n,True)
            | _ => none
          | _ => none
        | none => none
      | _ => none
    | _ => none
  | _ => none
theorem extract_str (s:ByteArray) (a b:Nat):(s.extract a b)=⟨(((bl s).drop a).take (b - a)).toArray⟩:=by
  have:=ByteArray.extract_mk (bl s) a b
  rw [mk_bl] at this; exact this
theorem pSlice_ok {P:Program}{w:World}{t:TypeId}{x:Value}{lo hi:Option Value}{v:Value}{ob:Prop}(h:pSlice P t x lo hi=some (v,ob)) (ho:ob) :
    (Instr.sliceAt t x lo hi none).run P w=.ok v w:=by
  unfold pSlice at h
  split at h
  · rename_i hu
    split at h
    · rename_i s
      have hz:=size_bl s
      split at h
      · split at h <;> simp only [Option.some.injEq,Prod.mk.injEq,reduceCtorEq] at h <;> obtain⟨rfl,rfl⟩:=h
        · simp [Instr.sliceAt,Instr.slice,run_underlying hu,Instr.sliceBounds]
        · rename_i k h
          have e:h.toNat≤(bl s).length:=by omega
          simp only [Instr.sliceAt,Instr.slice,run_underlying hu,Instr.sliceBounds,Instr.sliceBound,asIntOf,Sem.run_bind,Result.andThen_ok,Option.isSome_none,Bool.false_eq_true,if_false,
            Sem.run_pure,ho.1,show h≤(s.size:Int) by omega,and_self,if_true,extract_str,str,List.drop_zero,Nat.sub_zero]
      · rename_i k l
        split at h <;> simp only [Option.some.injEq,Prod.mk.injEq,reduceCtorEq] at h <;> obtain⟨rfl,rfl⟩:=h
        · simp only [Instr.sliceAt,Instr.slice,run_underlying hu,Instr.sliceBounds,Instr.sliceBound,asIntOf,Sem.run_bind,Result.andThen_ok,Option.isSome_none,Bool.false_eq_true,if_false,
            Sem.run_pure,ho.1,show l≤(s.size:Int) by omega,and_self,if_true,extract_str,str]
          congr 4
          rw [List.take_of_length_le (by simp; omega)]
        · rename_i k' h
          obtain⟨h0,h1,h2⟩:=ho
          simp only [Instr.sliceAt,Instr.slice,run_underlying hu,Instr.sliceBounds,Instr.sliceBound,asIntOf,Sem.run_bind,Result.andThen_ok,Option.isSome_none,Bool.false_eq_true,if_false,
            Sem.run_pure,show 0≤h by omega,show h≤(s.size:Int) by omega,h0,show l≤(h.toNat:Int) by omega,and_self,if_true,extract_str,str]
      · cases h
    · cases h
  · rename_i e hu
    split at h
    · rename_i a len cap
      split at h
      · rename_i n hn
        have hn':=fun w=>szT_ok (w:=w) hn
        split at h
        · split at h <;> simp only [Option.some.injEq,Prod.mk.injEq,reduceCtorEq] at h <;> obtain⟨rfl,rfl⟩:=h
          · cases a <;> simp [Instr.sliceAt,Instr.slice,run_underlying hu,Instr.sliceBounds,hn',Addr.add_zero']
          · rename_i k h
            cases a <;> simp [Instr.sliceAt,Instr.slice,run_underlying hu,Instr.sliceBounds,Instr.sliceBound,asIntOf,hn',ho,Addr.add_zero']
        · rename_i k l
          split at h
          · rename_i b o
            split at h <;> simp only [Option.some.injEq,Prod.mk.injEq,reduceCtorEq] at h <;> obtain⟨rfl,rfl⟩:=h
            · obtain⟨h0,h1,h2⟩:=ho
              have hne:¬ cap=l.toNat:=by omega
              simp [Instr.sliceAt,Instr.slice,run_underlying hu,Instr.sliceBounds,Instr.sliceBound,asIntOf,hn',h0,h1,hne,Addr.add_lit]
            · rename_i k' h
              obtain⟨h0,h1,h2,h3⟩:=ho
              have hne:¬ cap=l.toNat:=by omega
              simp [Instr.sliceAt,Instr.slice,run_underlying hu,Instr.sliceBounds,Instr.sliceBound,asIntOf,hn',h0,show 0≤h by omega,h2,hne,Addr.add_lit]
              intro hh; omega
          · cases h
        · cases h
      · cases h
    · cases h
  · rename_i n e hu
    split at h
    · split at h
      · rename_i b o
        split at h
        · rename_i sz hn
          have hn':=fun w=>szT_ok (w:=w) hn
          split at h
          · split at h <;> simp only [Option.some.injEq,Prod.mk.injEq,reduceCtorEq] at h
            obtain⟨rfl,rfl⟩:=h
            simp [Instr.sliceAt,run_underlying hu,Instr.sureAddr,Instr.sliceBounds,hn',Addr.add_zero']
          · cases h
        · cases h
      · cases h
    · cases h
  · cases h
end Go.Eng
namespace Go.Eng
open Go
def v32 (b:BitVec 32):Value:=.int .u32 (b.toNat:Int)
theorem wrap_u32 (x:Int):IntKind.u32.wrap x=x % 4294967296:=by
  simp only [IntKind.wrap,IntKind.bits,IntKind.signed]; simp
theorem w_lt (a:BitVec 32):a.toNat < 4294967296:=a.isLt
theorem w_add (a b:BitVec 32):IntKind.u32.wrap ((a.toNat:Int)+b.toNat)=((a+b).toNat:Int):=by
  rw [wrap_u32,BitVec.toNat_add]; omega
theorem w_ofInt (a:BitVec 32):BitVec.ofInt 32 (a.toNat:Int)=a:=by
  rw [BitVec.ofInt_natCast]; simp
theorem w_or (a b:BitVec 32):ior .u32 a.toNat b.toNat=((a ||| b).toNat:Int):=by
  show IntKind.u32.wrap ((BitVec.ofInt 32 (a.toNat:Int) ||| BitVec.ofInt 32 (b.toNat:Int)).toNat:Int)=_
  rw [w_ofInt,w_ofInt,wrap_u32]
  have:=w_lt (a ||| b); omega
theorem w_and (a b:BitVec 32):iand .u32 a.toNat b.toNat=((a &&& b).toNat:Int):=by
  show IntKind.u32.wrap ((BitVec.ofInt 32 (a.toNat:Int) &&& BitVec.ofInt 32 (b.toNat:Int)).toNat:Int)=_
  rw [w_ofInt,w_ofInt,wrap_u32]
  have:=w_lt (a &&& b); omega
theorem w_xor (a b:BitVec 32):ixor .u32 a.toNat b.toNat=((a ^^^ b).toNat:Int):=by
  show IntKind.u32.wrap ((BitVec.ofInt 32 (a.toNat:Int) ^^^ BitVec.ofInt 32 (b.toNat:Int)).toNat:Int)=_
  rw [w_ofInt,w_ofInt,wrap_u32]
  have:=w_lt (a ^^^ b); omega
theorem w_not (a:BitVec 32):ixor .u32 IntKind.u32.max a.toNat=((~~~a).toNat:Int):=by
  have h:ixor .u32 IntKind.u32.max a.toNat=ixor .u32 ((BitVec.allOnes 32).toNat:Int) a.toNat:=rfl
  rw [h,w_xor,BitVec.allOnes_xor]
theorem w_sub (a:BitVec 32):(4294967295:Int) - a.toNat=((~~~a).toNat:Int):=by
  rw [BitVec.toNat_not]; have:=w_lt a; omega
theorem w_shr (a:BitVec 32) (k:Nat):((a.toNat:Int) / 2 ^ k)=((a >>> k).toNat:Int):=by
  rw [BitVec.toNat_ushiftRight,Nat.shiftRight_eq_div_pow]
  simp
theorem w_shl (a:BitVec 32) (k:Nat):IntKind.u32.wrap ((a.toNat:Int) * 2 ^ k)=((a <<< k).toNat:Int):=by
  rw [wrap_u32,BitVec.toNat_shiftLeft,Nat.shiftLeft_eq]
  rw [show ((a.toNat:Int) * 2 ^ k)=((a.toNat * 2 ^ k:Nat):Int) by simp]
  omega
def rot (x:BitVec 32) (k:Nat):BitVec 32:=x <<< (32 - k) ||| x >>> k
theorem rot_comm (x:BitVec 32) (k:Nat):x >>> k ||| x <<< (32 - k)=rot x k:=BitVec.or_comm _ _
theorem ch_eq (e f g:BitVec 32):(e &&& f) ||| (~~~e &&& g)=(e &&& f) ^^^ (~~~e &&& g):=by
  apply BitVec.eq_of_getLsbD_eq
  intro i hi
  simp only [BitVec.getLsbD_or,BitVec.getLsbD_xor,BitVec.getLsbD_and,BitVec.getLsbD_not,hi,decide_true,Bool.true_and]
  cases e.getLsbD i <;> cases f.getLsbD i <;> cases g.getLsbD i <;> rfl
theorem maj_eq (a b c:BitVec 32):(a &&& b) ||| (a &&& c) ||| (b &&& c)=(a &&& b) ^^^ (a &&& c) ^^^ (b &&& c):=by
  apply BitVec.eq_of_getLsbD_eq
  intro i hi
  simp only [BitVec.getLsbD_or,BitVec.getLsbD_xor,BitVec.getLsbD_and]
  cases a.getLsbD i <;> cases b.getLsbD i <;> cases c.getLsbD i <;> rfl
def word4 (a b c d:UInt8):BitVec 32:=BitVec.ofNat 32 (((a.toNat * 256+b.toNat) * 256+c.toNat) * 256+d.toNat)
theorem word4_lt (a b c d:UInt8):((a.toNat * 256+b.toNat) * 256+c.toNat) * 256+d.toNat < 4294967296:=by
  have:=a.toNat_lt; have:=b.toNat_lt; have:=c.toNat_lt; have:=d.toNat_lt; omega
theorem or_add {a b:BitVec 32}{k:Nat}(h:b.toNat < 2 ^ k) (ha:a.toNat * 2 ^ k < 4294967296):(a <<< k ||| b)=BitVec.ofNat 32 (a.toNat * 2 ^ k+b.toNat):=by
  apply BitVec.eq_of_toNat_eq
  rw [BitVec.toNat_or,BitVec.toNat_shiftLeft,BitVec.toNat_ofNat]
  have e:a.toNat <<< k % 2 ^ 32=a.toNat <<< k:=by rw [Nat.shiftLeft_eq]; omega
  rw [e,← Nat.shiftLeft_add_eq_or_of_lt h,Nat.shiftLeft_eq]
  have:a.toNat * 2 ^ k+b.toNat < 4294967296:=by
    have h1:(a.toNat * 2 ^ k+b.toNat) < (a.toNat+1) * 2 ^ k:=by rw [Nat.add_mul]; omega
    by_cases hk:k≤32
    · have h2:(a.toNat+1) * 2 ^ k≤2 ^ 32:=by
        have h3:(4294967296:Nat)=2 ^ (32 - k) * 2 ^ k:=by rw [← Nat.pow_add,Nat.sub_add_cancel hk]
        have h4:a.toNat < 2 ^ (32 - k):=by
          rw [h3] at ha
          exact Nat.lt_of_mul_lt_mul_right ha
        have h5:=Nat.mul_le_mul_right (2 ^ k) (Nat.succ_le_of_lt h4)
        have h6:(2:Nat) ^ 32=4294967296:=by decide
        rw [h6,h3]; exact h5
      have h6:(2:Nat) ^ 32=4294967296:=by decide
      omega
    · have h2:2 ^ 32≤2 ^ k:=Nat.pow_le_pow_right (by decide) (by omega)
      have h6:(2:Nat) ^ 32=4294967296:=by decide
      have h7:a.toNat=0:=by
        apply Classical.byContradiction
        intro h0
        have:1 * 2 ^ k≤a.toNat * 2 ^ k:=Nat.mul_le_mul_right _ (by omega)
        omega
      have:=w_lt b
      rw [h7]; omega
  omega
def b32 (a:UInt8):BitVec 32:=BitVec.ofNat 32 a.toNat
theorem b32_toNat (a:UInt8):(b32 a).toNat=a.toNat:=by
  have:=a.toNat_lt
  unfold b32; rw [BitVec.toNat_ofNat]; omega
theorem word4_or (a b c d:UInt8):((b32 a <<< 24 ||| b32 b <<< 16) ||| b32 c <<< 8) ||| b32 d=word4 a b c d:=by
  have ha:=a.toNat_lt; have hb:=b.toNat_lt; have hc:=c.toNat_lt; have hd:=d.toNat_lt
  have e1:(b32 b <<< 16).toNat=b.toNat * 65536:=by rw [BitVec.toNat_shiftLeft,Nat.shiftLeft_eq,b32_toNat]; omega
  have e2:(b32 c <<< 8).toNat=c.toNat * 256:=by rw [BitVec.toNat_shiftLeft,Nat.shiftLeft_eq,b32_toNat]; omega
  have h1:b32 a <<< 24 ||| b32 b <<< 16=BitVec.ofNat 32 (a.toNat * 256+b.toNat) <<< 16:=by
    rw [or_add (by rw [e1]; omega) (by rw [b32_toNat]; omega),b32_toNat,e1]
    apply BitVec.eq_of_toNat_eq
    rw [BitVec.toNat_shiftLeft,Nat.shiftLeft_eq,BitVec.toNat_ofNat,BitVec.toNat_ofNat]; omega
  have h2:BitVec.ofNat 32 (a.toNat * 256+b.toNat) <<< 16 ||| b32 c <<< 8=BitVec.ofNat 32 ((a.toNat * 256+b.toNat) * 256+c.toNat) <<< 8:=by
    rw [or_add (by rw [e2]; omega) (by rw [BitVec.toNat_ofNat]; omega),e2]
    apply BitVec.eq_of_toNat_eq
    rw [BitVec.toNat_shiftLeft,Nat.shiftLeft_eq,BitVec.toNat_ofNat,BitVec.toNat_ofNat,BitVec.toNat_ofNat]; omega
  rw [h1,h2,or_add (by rw [b32_toNat]; omega) (by rw [BitVec.toNat_ofNat]; omega)]
  unfold word4
  apply BitVec.eq_of_toNat_eq
  rw [b32_toNat,BitVec.toNat_ofNat,BitVec.toNat_ofNat,BitVec.toNat_ofNat]; omega
structure St8 where
  a:BitVec 32
  b:BitVec 32
  c:BitVec 32
  d:BitVec 32
  e:BitVec 32
  f:BitVec 32
  g:BitVec 32
  h:BitVec 32
def St8.l (s:St8):List (BitVec 32):=[s.a,s.b,s.c,s.d,s.e,s.f,s.g,s.h]
def w32s (l:List (BitVec 32)):List Value:=l.map v32
theorem w32s_len (l:List (BitVec 32)):(w32s l).length=l.length:=by simp [w32s]
theorem w32s_get {l:List (BitVec 32)}{i:Nat}{x:BitVec 32}(h:l[i]?=some x):(w32s l)[i]?=some (v32 x):=by simp [w32s,h]
theorem w32s_one (l:List (BitVec 32)):∀ v,v∈w32s l→v.oneCell'=true:=by
  intro v hv; simp only [w32s,List.mem_map] at hv; obtain⟨x,-,rfl⟩:=hv; rfl
def sg0 (x:BitVec 32):BitVec 32:=rot x 7 ^^^ rot x 18 ^^^ (x >>> 3)
def sg1 (x:BitVec 32):BitVec 32:=rot x 17 ^^^ rot x 19 ^^^ (x >>> 10)
def bg1 (e:BitVec 32):BitVec 32:=rot e 6 ^^^ rot e 11 ^^^ rot e 25
def bg0 (a:BitVec 32):BitVec 32:=rot a 2 ^^^ rot a 13 ^^^ rot a 22
def at32 (l:List (BitVec 32)) (i:Nat):BitVec 32:=l[i]?.getD 0
def at8 (l:List UInt8) (i:Nat):UInt8:=l[i]?.getD 0
def wordAt (p:List UInt8) (i:Nat):BitVec 32:=word4 (at8 p (4 * i)) (at8 p (4 * i+1)) (at8 p (4 * i+2)) (at8 p (4 * i+3))
def words (p:List UInt8):List (BitVec 32):=(List.range 16).map (wordAt p)
def nextW (l:List (BitVec 32)):BitVec 32:=at32 l (l.length - 16)+at32 l (l.length - 7)+sg0 (at32 l (l.length - 15))+sg1 (at32 l (l.length - 2))
def wsx (p:List UInt8):Nat→List (BitVec 32)
  | 0 => words p
  | k+1 => wsx p k++[nextW (wsx p k)]
theorem wsx_len (p:List UInt8):∀ k,(wsx p k).length=16+k
  | 0 => by simp [wsx,words]
  | k+1 => by rw [wsx,List.length_append,wsx_len p k]; simp; omega
theorem at32_get {l:List (BitVec 32)}{i:Nat}(h:i < l.length):l[i]?=some (at32 l i):=by unfold at32; rw [List.getElem?_eq_getElem h]; rfl
theorem at8_get {l:List UInt8}{i:Nat}(h:i < l.length):l[i]?=some (at8 l i):=by unfold at8; rw [List.getElem?_eq_getElem h]; rfl
def rT (s:St8) (k w:BitVec 32):BitVec 32:=s.h+k+w+bg1 s.e+((s.e &&& s.f) ^^^ (~~~s.e &&& s.g))
def rU (s:St8):BitVec 32:=bg0 s.a+((s.a &&& s.b) ^^^ (s.a &&& s.c) ^^^ (s.b &&& s.c))
def rnd (s:St8) (k w:BitVec 32):St8:=⟨rT s k w+rU s,s.a,s.b,s.c,s.d+rT s k w,s.e,s.f,s.g⟩
def rnds (K W:List (BitVec 32)):Nat→St8→St8
  | 0,s => s
  | i+1,s => rnd (rnds K W i s) (at32 K i) (at32 W i)
def addS (s t:St8):St8:=⟨s.a+t.a,s.b+t.b,s.c+t.c,s.d+t.d,s.e+t.e,s.f+t.f,s.g+t.g,s.h+t.h⟩
def mixS (K:List (BitVec 32)) (st:St8) (p:List UInt8):St8:=addS (rnds K (wsx p 48) 64 st) st
def blkN (K:List (BitVec 32)):Nat→St8→List UInt8→St8
  | 0,st,_ => st
  | n+1,st,l => blkN K n (mixS K st (l.take 64)) (l.drop 64)
theorem blkN_add (K:List (BitVec 32)):∀ (m k:Nat) (st:St8) (l:List UInt8),blkN K (m+k) st l=blkN K k (blkN K m st l) (l.drop (64 * m))
  | 0,k,st,l => by simp [blkN]
  | m+1,k,st,l => by
    rw [show m+1+k=(m+k)+1 by omega]
    simp only [blkN]
    rw [blkN_add K m k,List.drop_drop,show 64+64 * m=64 * (m+1) by omega]
theorem blkN_app (K:List (BitVec 32)):∀ (m:Nat) (st:St8) (l t:List UInt8),64 * m≤l.length→blkN K m st (l++t)=blkN K m st l
  | 0,_,_,_,_ => rfl
  | m+1,st,l,t,h => by
    simp only [blkN]
    rw [List.take_append_of_le_length (by omega),List.drop_append_of_le_length (by omega),blkN_app K m _ _ t (by rw [List.length_drop]; omega)]
def beB (n:Nat):Nat→List UInt8
  | 0 => []
  | k+1 => UInt8.ofNat (n / 256 ^ k % 256) :: beB n k
theorem beB_len (n:Nat):∀ k,(beB n k).length=k
  | 0 => rfl
  | k+1 => by rw [beB,List.length_cons,beB_len n k]
def padZ (n:Nat):Nat:=(119 - n % 64) % 64
def padB (n:Nat):List UInt8:=128 :: (List.replicate (padZ n) 0++beB (8 * n % 18446744073709551616) 8)
theorem padB_len (n:Nat):(n+(padB n).length) % 64=0∧(padB n).length≤72∧9≤(padB n).length:=by
  unfold padB padZ
  simp only [List.length_cons,List.length_append,List.length_replicate,beB_len]
  omega
def outB (s:St8):List UInt8:=s.l.flatMap fun x=>beB x.toNat 4
theorem outB_len (s:St8):(outB s).length=32:=by
  simp [outB,St8.l,beB_len]
def shaB (K:List (BitVec 32)) (H:St8) (s:List UInt8):List UInt8:=outB (blkN K ((s.length+(padB s.length).length) / 64) H (s++padB s.length))
theorem shaB_len (K:List (BitVec 32)) (H:St8) (s:List UInt8):(shaB K H s).length=32:=outB_len _
theorem shaB_two (K:List (BitVec 32)) (H:St8) (s:List UInt8):shaB K H s=outB (blkN K (((s.drop (64 * (s.length / 64)))++padB s.length).length / 64) (blkN K (s.length / 64) H s) (s.drop (64 * (s.length / 64))++padB s.length)):=by
  unfold shaB
  have h:=padB_len s.length
  have e:(s.length+(padB s.length).length) / 64=s.length / 64+((s.drop (64 * (s.length / 64)))++padB s.length).length / 64:=by
    rw [List.length_append,List.length_drop]; omega
  rw [e,blkN_add,blkN_app K _ _ _ _ (by omega),List.drop_append_of_le_length (by omega)]
def belowW (x p:Nat) (cube:Bool):Bool :=
  let hi:=x / 4294967296
  let lo:=x % 4294967296
  let b0:=2 * hi * lo+lo * lo / 4294967296
  let a:=lo * lo % 4294967296
  let c:=hi * hi+b0 / 4294967296
  let b:=b0 % 4294967296
  if cube then
    let d1:=a * lo / 4294967296+a * hi % 4294967296+b * lo % 4294967296
    let d2:=d1 / 4294967296+a * hi / 4294967296+b * lo / 4294967296+b * hi+c * lo
    let d3:=c * hi+d2 / 4294967296
    decide (d3 < p) || (decide (d3=p) && (decide (a * lo % 4294967296=0) && decide (d1 % 4294967296=0) && decide (d2 % 4294967296=0)))
  else decide (c < p) || (decide (c=p) && decide (a=0) && decide (b=0))
def rootW (p:Nat) (cube:Bool):Nat→Nat→Nat
  | 0,x => x
  | k+1,x => rootW p cube k (if belowW (x+2 ^ k) p cube then x+2 ^ k else x)
def rt32 (p:Nat) (cube:Bool):BitVec 32:=BitVec.ofNat 32 (rootW p cube 37 0)
def isPr (p:Nat):Bool:=(List.range p).all fun d=>decide (d < 2) || decide (p < d * d) || !decide (p % d=0)
def accP (p d:Nat):Bool:=(List.range d).all fun e=>decide (e < 2) || !decide (p % e=0)
theorem accP_succ (p d:Nat) (h:2≤d):accP p (d+1)=(accP p d && !decide (p % d=0)):=by
  unfold accP
  rw [List.range_succ,List.all_append]
  simp [show ¬ d < 2 by omega]
theorem accP_two (p:Nat):accP p 2=true:=by unfold accP; rfl
theorem accP_is {p d:Nat}(h2:2≤d) (h:p < d * d) (hm:(d - 1) * (d - 1)≤p∨d=2):accP p d=isPr p:=by
  have sq:∀ e,2≤e→e < d→e * e≤p:=by
    intro e he hed
    rcases hm with hm | hm
    · have:=Nat.mul_le_mul (show e≤d - 1 by omega) (show e≤d - 1 by omega); omega
    · omega
  rw [Bool.eq_iff_iff]
  unfold accP isPr
  simp only [List.all_eq_true,List.mem_range,Bool.or_eq_true,decide_eq_true_eq,Bool.not_eq_true',decide_eq_false_iff_not]
  constructor
  · intro ha e he
    by_cases h1:e < d
    · rcases ha e h1 with h3 | h3
      · exact .inl (.inl h3)
      · exact .inr h3
    · have:=Nat.mul_le_mul (show d≤e by omega) (show d≤e by omega)
      exact .inl (.inr (by omega))
  · intro ha e he
    by_cases h1:e < 2
    · exact .inl h1
    · have h4:=sq e (by omega) he
      have h5:e < p:=by
        have:=Nat.mul_le_mul_right e (show 2≤e by omega); omega
      rcases ha e h5 with (h3 | h3) | h3
      · exact .inl h3
      · omega
      · exact .inr h3
def prL (p:Nat):List Nat:=(List.range p).filter fun q=>decide (2≤q) && isPr q
theorem prL_succ {p:Nat}(h:2≤p):prL (p+1)=prL p++if isPr p=true then [p] else []:=by
  unfold prL
  rw [List.range_succ,List.filter_append]
  simp only [List.filter_cons,List.filter_nil,h,decide_true,Bool.true_and]
theorem prL_two:prL 2=[]:=by unfold prL; rfl
def P64:List Nat:=[2,3,5,7,11,13,17,19,23,29,31,37,41,43,47,53,59,61,67,71,73,79,83,89,97,101,103,107,109,113,127,131,137,139,149,151,157,163,167,173,179,181,191,193,197,199,211,223,227,229,233,239,241,251,257,263,269,271,277,281,283,293,307,311]
set_option maxRecDepth 100000 in
theorem prL_all:prL 312=P64:=by decide +kernel
set_option maxRecDepth 100000 in
theorem prL_311:(prL 311).length=63:=by decide +kernel
theorem prL_mono {p q:Nat}(h:p≤q):(prL p).length≤(prL q).length:=by
  unfold prL
  have e:List.range q=List.range p++(List.range (q - p)).map (p+·):=by rw [← List.range_add,Nat.add_sub_cancel' h]
  rw [e,List.filter_append,List.length_append]; omega
theorem prL_lt {p:Nat}(h:p < 312):(prL p).length < 64:=by
  have:=prL_mono (show p≤311 by omega); rw [prL_311] at this; omega
def K64:List (BitVec 32):=[1116352408,1899447441,3049323471,3921009573,961987163,1508970993,2453635748,2870763221,3624381080,310598401,607225278,1426881987,1925078388,2162078206,2614888103,3248222580,3835390401,4022224774,264347078,604807628,770255983,1249150122,1555081692,1996064986,2554220882,2821834349,2952996808,3210313671,3336571891,3584528711,113926993,338241895,666307205,773529912,1294757372,1396182291,1695183700,1986661051,2177026350,2456956037,2730485921,2820302411,3259730800,3345764771,3516065817,3600352804,4094571909,275423344,430227734,506948616,659060556,883997877,958139571,1322822218,1537002063,1747873779,1955562222,2024104815,2227730452,2361852424,2428436474,2756734187,3204031479,3329325298]
def H0:St8:=⟨1779033703,3144134277,1013904242,2773480762,1359893119,2600822924,528734635,1541459225⟩
set_option maxRecDepth 100000 in
theorem roots_K:P64.map (fun p=>rt32 p true)=K64:=by decide +kernel
set_option maxRecDepth 100000 in
theorem roots_H:(P64.take 8).map (fun p=>rt32 p false)=H0.l:=by decide +kernel
theorem K64_len:K64.length=64:=rfl
def shaH (s:List UInt8):List UInt8:=shaB K64 H0 s
def cutH (n:Nat) (s:List UInt8):List UInt8:=(shaH s).take n
theorem shaH_len (s:List UInt8):(shaH s).length=32:=shaB_len _ _ _
theorem cutH_len {n:Nat}(h:n≤32) (s:List UInt8):(cutH n s).length=n:=by
  unfold cutH; rw [List.length_take,shaH_len]; omega
attribute [irreducible] shaH
def keyC:List Value:=w32s K64++w32s H0.l
theorem keyC_len:keyC.length=72:=rfl
theorem keyC_eq:keyC=w32s K64++w32s H0.l:=rfl
attribute [irreducible] keyC
def splF (c:Nat):Nat→Nat→Nat
  | 0,k => k
  | f+1,k => if 2 * k < c then splF c f (2 * k) else k
def splN (c:Nat):Nat:=if c < 2 then 0 else splF c 62 1
theorem splF_in (c:Nat):∀ (f k:Nat),1≤k→k < c→1≤splF c f k∧splF c f k < c
  | 0,k,h1,h2 =>⟨h1,h2⟩
  | f+1,k,h1,h2 => by
    unfold splF
    split
    · exact splF_in c f (2 * k) (by omega) (by omega)
    · exact⟨h1,h2⟩
theorem splN_in {c:Nat}(h:2≤c):1≤splN c∧splN c < c:=by
  unfold splN; rw [if_neg (by omega)]; exact splF_in c 62 1 (by omega) (by omega)
def rootB (n:Nat) (l:List (List UInt8)):List UInt8 :=
  if _h:l.length < 2 then match l with
    | [] => cutH n []
    | x :: _ => cutH n (0 :: x)
  else cutH n (1 :: (rootB n (l.take (splN l.length))++rootB n (l.drop (splN l.length))))
termination_by l.length
decreasing_by
  · have:=splN_in (show 2≤l.length by omega); rw [List.length_take]; omega
  · have:=splN_in (show 2≤l.length by omega); rw [List.length_drop]; omega
theorem rootB_nil (n:Nat):rootB n []=cutH n []:=by rw [rootB]; rfl
theorem rootB_one (n:Nat) (x:List UInt8):rootB n [x]=cutH n (0 :: x):=by rw [rootB]; rfl
theorem rootB_two (n:Nat) {l:List (List UInt8)}(h:2≤l.length):rootB n l=cutH n (1 :: (rootB n (l.take (splN l.length))++rootB n (l.drop (splN l.length)))):=by
  rw [rootB]; exact dif_neg (by omega)
theorem rootB_len {n:Nat}(hn:n≤32) (l:List (List UInt8)):(rootB n l).length=n:=by
  match l with
  | [] => rw [rootB_nil]; exact cutH_len hn _
  | [x] => rw [rootB_one]; exact cutH_len hn _
  | x :: y :: l => rw [rootB_two n (by simp)]; exact cutH_len hn _
end Go.Eng
