/- What is asked of each text, reckoned. Conditions: none. -/
import Derived.Test.YtjihnbjdclobgaaConfD
import Derived.KernelRfl
namespace Go.Proofs.Ytjihnbjdclobgaa.VS
set_option maxRecDepth 100000
theorem w_tells (c : Cnf) (b : Int) (k : AV → Prop) : (funC sConfF Try.f3 [encCnf c, .int .i64 b] k) = (((decide ((↑c.ways.length : Int) > (20 : Int)) = true → 
  k (AV.bool true)) ∧ (decide ((↑c.ways.length : Int) > (20 : Int)) = false → 
  ((fitC c) ∧ 
   ((fitC c) ∧ 
    (((fIs c == fIs c) = true → 
      ((True) ∧ 
       ((True) ∧ 
        ((true = true → 
          (((fAt c b (1 : Int) == fAt c b (1 : Int)) = true → 
            ((True) ∧ 
             ((True) ∧ 
              ((true = true → 
                (((fHeeds c b == fHeeds c b) = true → 
                  ((fitC c) ∧ 
                   ((fitC c) ∧ 
                    ((true = true → 
                      (((fAbove c b == fAbove c b) = true → 
                        ((True) ∧ 
                         ((true = true → 
                           k (AV.ub true)) ∧ (true = false → 
                           k (AV.ub false))))) ∧ ((fAbove c b == fAbove c b) = false → 
                        ((false = true → 
                          k (AV.tup [])) ∧ (false = false → 
                          k (AV.bool false)))))) ∧ (true = false → 
                      ((false = true → 
                        ((True) ∧ 
                         ((true = true → 
                           k (AV.ub true)) ∧ (true = false → 
                           k (AV.ub false))))) ∧ (false = false → 
                        ((false = true → 
                          k (AV.tup [])) ∧ (false = false → 
                          k (AV.bool false)))))))))) ∧ ((fHeeds c b == fHeeds c b) = false → 
                  ((false = true → False) ∧ (false = false → 
                    ((false = true → 
                      k (AV.tup [])) ∧ (false = false → 
                      k (AV.bool false)))))))) ∧ (true = false → 
                ((false = true → 
                  ((fitC c) ∧ 
                   ((fitC c) ∧ 
                    ((true = true → 
                      (((fAbove c b == fAbove c b) = true → 
                        ((True) ∧ 
                         ((true = true → 
                           k (AV.ub true)) ∧ (true = false → 
                           k (AV.ub false))))) ∧ ((fAbove c b == fAbove c b) = false → 
                        ((false = true → 
                          k (AV.tup [])) ∧ (false = false → 
                          k (AV.bool false)))))) ∧ (true = false → 
                      ((false = true → 
                        ((True) ∧ 
                         ((true = true → 
                           k (AV.ub true)) ∧ (true = false → 
                           k (AV.ub false))))) ∧ (false = false → 
                        ((false = true → 
                          k (AV.tup [])) ∧ (false = false → 
                          k (AV.bool false)))))))))) ∧ (false = false → 
                  ((false = true → False) ∧ (false = false → 
                    ((false = true → 
                      k (AV.tup [])) ∧ (false = false → 
                      k (AV.bool false)))))))))))) ∧ ((fAt c b (1 : Int) == fAt c b (1 : Int)) = false → 
            ((false = true → False) ∧ (false = false → 
              ((false = true → False) ∧ (false = false → 
                ((false = true → 
                  k (AV.tup [])) ∧ (false = false → 
                  k (AV.bool false)))))))))) ∧ (true = false → 
          ((false = true → 
            ((True) ∧ 
             ((True) ∧ 
              ((true = true → 
                (((fHeeds c b == fHeeds c b) = true → 
                  ((fitC c) ∧ 
                   ((fitC c) ∧ 
                    ((true = true → 
                      (((fAbove c b == fAbove c b) = true → 
                        ((True) ∧ 
                         ((true = true → 
                           k (AV.ub true)) ∧ (true = false → 
                           k (AV.ub false))))) ∧ ((fAbove c b == fAbove c b) = false → 
                        ((false = true → 
                          k (AV.tup [])) ∧ (false = false → 
                          k (AV.bool false)))))) ∧ (true = false → 
                      ((false = true → 
                        ((True) ∧ 
                         ((true = true → 
                           k (AV.ub true)) ∧ (true = false → 
                           k (AV.ub false))))) ∧ (false = false → 
                        ((false = true → 
                          k (AV.tup [])) ∧ (false = false → 
                          k (AV.bool false)))))))))) ∧ ((fHeeds c b == fHeeds c b) = false → 
                  ((false = true → False) ∧ (false = false → 
                    ((false = true → 
                      k (AV.tup [])) ∧ (false = false → 
                      k (AV.bool false)))))))) ∧ (true = false → 
                ((false = true → 
                  ((fitC c) ∧ 
                   ((fitC c) ∧ 
                    ((true = true → 
                      (((fAbove c b == fAbove c b) = true → 
                        ((True) ∧ 
                         ((true = true → 
                           k (AV.ub true)) ∧ (true = false → 
                           k (AV.ub false))))) ∧ ((fAbove c b == fAbove c b) = false → 
                        ((false = true → 
                          k (AV.tup [])) ∧ (false = false → 
                          k (AV.bool false)))))) ∧ (true = false → 
                      ((false = true → 
                        ((True) ∧ 
                         ((true = true → 
                           k (AV.ub true)) ∧ (true = false → 
                           k (AV.ub false))))) ∧ (false = false → 
                        ((false = true → 
                          k (AV.tup [])) ∧ (false = false → 
                          k (AV.bool false)))))))))) ∧ (false = false → 
                  ((false = true → False) ∧ (false = false → 
                    ((false = true → 
                      k (AV.tup [])) ∧ (false = false → 
                      k (AV.bool false)))))))))))) ∧ (false = false → 
            ((false = true → False) ∧ (false = false → 
              ((false = true → False) ∧ (false = false → 
                ((false = true → 
                  k (AV.tup [])) ∧ (false = false → 
                  k (AV.bool false)))))))))))))) ∧ ((fIs c == fIs c) = false → 
      ((false = true → False) ∧ (false = false → 
        ((false = true → False) ∧ (false = false → 
          ((false = true → False) ∧ (false = false → 
            ((false = true → 
              k (AV.tup [])) ∧ (false = false → 
              k (AV.bool false)))))))))))))))) := by kernel_rfl
theorem w_abv (c : Cnf) (b : Int) (k : AV → Prop) : (funC sConfF Try.f4 [encCnf c, .int .i64 b] k) = (((decide ((↑c.ways.length : Int) > (8 : Int)) = true → 
  k (AV.bool true)) ∧ (decide ((↑c.ways.length : Int) > (8 : Int)) = false → 
  ((fitC c) ∧ 
   (((!fIs c) = true → 
     k (AV.bool true)) ∧ ((!fIs c) = false → 
     ((decide (b < (0 : Int)) = true → 
       k (AV.bool true)) ∧ (decide (b < (0 : Int)) = false → 
       ((fitC c) ∧ 
        ((decide (fAbove c b < (0 : Int)) = true → 
          k (AV.bool false)) ∧ (decide (fAbove c b < (0 : Int)) = false → 
          ((decide (fAbove c b > b) = true → 
            k (AV.bool false)) ∧ (decide (fAbove c b > b) = false → 
            ((True) ∧ 
             (((!fAt c (fAbove c b) (1 : Int)) = true → 
               k (AV.bool false)) ∧ ((!fAt c (fAbove c b) (1 : Int)) = false → 
               ((True) ∧ 
                (((!fHeeds c (fAbove c b)) = true → 
                  k (AV.bool false)) ∧ ((!fHeeds c (fAbove c b)) = false → 
                  (∃ p : Cnf × Int × Int, 
                   ((([AV.int IntKind.i64 b, AV.ptr (0 : Nat) (0 : Nat), AV.int IntKind.i64 (IntKind.i64.wrap (fAbove c b + (1 : Int)))] : List AV) = [AV.int IntKind.i64 p.snd.fst, AV.ptr (0 : Nat) (0 : Nat), AV.int IntKind.i64 p.snd.snd]) ∧ 
                    ((([((0 : Nat), AObj.cells [AV.tl GT.int c.ways, AV.int IntKind.i64 c.policy])] : Heap) = [((0 : Nat), AObj.cells [AV.tl GT.int p.fst.ways, AV.int IntKind.i64 p.fst.policy])]) ∧ 
                     ((p.fst.ways.length ≤ (9223372036854775807 : Nat) ∧
  (0 : Int) ≤ p.snd.snd ∧ ∀ (j : Int), p.snd.snd ≤ j → j ≤ p.snd.fst → fAt p.fst j (1 : Int) = false) ∧ 
                      ((True) ∧ 
                       k (AV.bool true))))))))))))))))))))))))) := by kernel_rfl
theorem w_abv1 (c : Cnf) (b i : Int) (back : List AV → Heap → Prop) (out : AX → List AV → Heap → Prop) : (roundC sConfF lLaw (loopAt Try.f4 0) [.int .i64 b, .ptr 0 0, .int .i64 i] [(0, .cells (encCnf c).cells)] back out) = (((decide (i ≤ b) = true → 
  ((decide (i < (↑c.ways.length : Int)) = true → 
    ((True) ∧ 
     ((fAt c i (1 : Int) = true → 
       out AX.ret [AV.bool false] []) ∧ (fAt c i (1 : Int) = false → 
       back [AV.int IntKind.i64 b, AV.ptr (0 : Nat) (0 : Nat), AV.int IntKind.i64 (IntKind.i64.wrap (i + (1 : Int)))]
  [((0 : Nat), AObj.cells [AV.tl GT.int c.ways, AV.int IntKind.i64 c.policy])])))) ∧ (decide (i < (↑c.ways.length : Int)) = false → 
    out (AX.exit (0 : Nat)) [AV.dead] []))) ∧ (decide (i ≤ b) = false → 
  out (AX.exit (0 : Nat)) [AV.dead] []))) := by kernel_rfl
theorem w_odd (w : Int) (k : AV → Prop) : (funC sConf0 Try.f39 [.int .i64 w] k) = (((decide (w < (1 : Int)) = true → 
  k (AV.bool true)) ∧ (decide (w < (1 : Int)) = false → 
  k (AV.ub (decide (w > (3 : Int))))))) := by kernel_rfl
theorem w_is (c : Cnf) (b w : Int) (k : AV → Prop) : (funC sConf0 Try.f41 [encCnf c, .int .i64 b, .int .i64 w] k) = (((decide (b ≥ (0 : Int)) = true → 
  ((decide (b < (↑c.ways.length : Int)) = true → 
    (((0 : Int) ≤ b ∧ b < (↑c.ways.length : Int)) ∧ 
     k (AV.ub (c.ways.getD b.toNat GT.int.nought == w)))) ∧ (decide (b < (↑c.ways.length : Int)) = false → 
    k (AV.bool false)))) ∧ (decide (b ≥ (0 : Int)) = false → 
  k (AV.bool false)))) := by kernel_rfl
theorem w_rRw (c : Cnf) (b : Int) (k : AV → Prop) : (funC sConf0 Try.f14 [encCnf c, .int .i64 b] k) = (((decide (b ≥ (0 : Int)) = true → 
  ((decide (b < (↑c.ways.length : Int)) = true → 
    (((0 : Int) ≤ b ∧ b < (↑c.ways.length : Int)) ∧ 
     k (AV.ub (c.ways.getD b.toNat GT.int.nought == (1 : Int))))) ∧ (decide (b < (↑c.ways.length : Int)) = false → 
    k (AV.bool false)))) ∧ (decide (b ≥ (0 : Int)) = false → 
  k (AV.bool false)))) := by kernel_rfl
theorem w_rHeeds (c : Cnf) (b : Int) (k : AV → Prop) : (funC sConf0 Try.f16 [encCnf c, .int .i64 b] k) = (((decide (b ≥ (0 : Int)) = true → 
  ((decide (b < (↑c.ways.length : Int)) = true → 
    (((0 : Int) ≤ b ∧ b < (↑c.ways.length : Int)) ∧ 
     (((c.ways.getD b.toNat GT.int.nought == (1 : Int)) = true → 
       k (AV.bool true)) ∧ ((c.ways.getD b.toNat GT.int.nought == (1 : Int)) = false → 
       (((0 : Int) ≤ b ∧ b < (↑c.ways.length : Int)) ∧ 
        k (AV.ub (c.ways.getD b.toNat GT.int.nought == (3 : Int)))))))) ∧ (decide (b < (↑c.ways.length : Int)) = false → 
    k (AV.bool false)))) ∧ (decide (b ≥ (0 : Int)) = false → 
  k (AV.bool false)))) := by kernel_rfl
theorem w_Rw (c : Cnf) (b : Int) (k : AV → Prop) : (funC sConfA Try.f13 [encCnf c, .int .i64 b] k) = (((True) ∧ 
 k (AV.ub (fAt c b (1 : Int))))) := by kernel_rfl
theorem w_Heeds (c : Cnf) (b : Int) (k : AV → Prop) : (funC sConfA Try.f15 [encCnf c, .int .i64 b] k) = (((True) ∧ 
 ((fAt c b (1 : Int) = true → 
   k (AV.bool true)) ∧ (fAt c b (1 : Int) = false → 
   ((True) ∧ 
    k (AV.ub (fAt c b (3 : Int)))))))) := by kernel_rfl
theorem w_idx (xs : List Int) (k : AV → Prop) : (funC sConfB Try.f69 [.tl .int xs, .fn 39 []] k) = ((∃ p : List Int × Nat, 
 ((([AV.tl GT.int xs, AV.fn (39 : Nat) [], AV.int IntKind.i64 (↑xs.length : Int), AV.int IntKind.i64 (0 : Int)] : List AV) = [AV.tl GT.int p.fst, AV.fn (39 : Nat) [], AV.int IntKind.i64 (↑p.fst.length : Int), AV.int IntKind.i64 (↑p.snd : Int)]) ∧ 
  ((([] : Heap) = []) ∧ 
   ((p.fst.length ≤ (9223372036854775807 : Nat)) ∧ 
    (((List.drop p.snd p.fst).any odd = true → 
      k (AV.int IntKind.i64 (oddGo (List.drop p.snd p.fst) p.snd))) ∧ ((List.drop p.snd p.fst).any odd = false → 
      k (AV.int IntKind.i64 (-1 : Int))))))))) := by kernel_rfl
theorem w_idx1 (xs : List Int) (i : Nat) (back : List AV → Heap → Prop) (out : AX → List AV → Heap → Prop) : (roundC sConfB lIdx (loopAt Try.f69 0) [.tl .int xs, .fn 39 [], .int .i64 xs.length, .int .i64 i] [] back out) = (((decide ((↑i : Int) < (↑xs.length : Int)) = true → 
  (((0 : Int) ≤ (↑i : Int) ∧ (↑i : Int) < (↑xs.length : Int)) ∧ 
   ((True) ∧ 
    ((odd (xs.getD (↑i : Int).toNat GT.int.nought) = true → 
      out AX.ret [AV.int IntKind.i64 (↑i : Int)] []) ∧ (odd (xs.getD (↑i : Int).toNat GT.int.nought) = false → 
      back
  [AV.tl GT.int xs, AV.fn (39 : Nat) [], AV.int IntKind.i64 (↑xs.length : Int),
    AV.int IntKind.i64 (IntKind.i64.wrap ((↑i : Int) + (1 : Int)))]
  []))))) ∧ (decide ((↑i : Int) < (↑xs.length : Int)) = false → 
  out (AX.exit (0 : Nat)) [AV.dead] []))) := by kernel_rfl
theorem w_has (xs : List Int) (k : AV → Prop) : (funC sConfC Try.f40 [.tl .int xs, .fn 39 []] k) = (((xs.length ≤ (9223372036854775807 : Nat)) ∧ 
 k (AV.ub (decide (oddGo xs (0 : Nat) ≥ (0 : Int)))))) := by kernel_rfl
theorem w_Is (c : Cnf) (k : AV → Prop) : (funC (sConfD lAbove) Try.f11 [encCnf c] k) = (((decide ((↑c.ways.length : Int) < (1 : Int)) = true → 
  k (AV.bool false)) ∧ (decide ((↑c.ways.length : Int) < (1 : Int)) = false → 
  ((decide ((↑c.ways.length : Int) > (8 : Int)) = true → 
    k (AV.bool false)) ∧ (decide ((↑c.ways.length : Int) > (8 : Int)) = false → 
    ((c.ways.length ≤ (9223372036854775807 : Nat)) ∧ 
     ((c.ways.any odd = true → 
       k (AV.bool false)) ∧ (c.ways.any odd = false → 
       (((0 : Int) ≤ (0 : Int) ∧ (0 : Int) < (↑c.ways.length : Int)) ∧ 
        (((c.ways.getD (Int.toNat (0 : Int)) GT.int.nought == (1 : Int)) = true → 
          ((decide (c.policy ≥ (1 : Int)) = true → 
            k (AV.ub (decide (c.policy ≤ (4 : Int))))) ∧ (decide (c.policy ≥ (1 : Int)) = false → 
            k (AV.bool false)))) ∧ ((c.ways.getD (Int.toNat (0 : Int)) GT.int.nought == (1 : Int)) = false → 
          k (AV.bool false)))))))))))) := by kernel_rfl
theorem w_Above (c : Cnf) (b : Int) (k : AV → Prop) : (funC (sConfD lAbove) Try.f17 [encCnf c, .int .i64 b] k) = ((∃ p : Cnf × Int, 
 ((([AV.ptr (0 : Nat) (0 : Nat),
  AV.int IntKind.i64
    (if IntKind.i64.wrap ((↑c.ways.length : Int) - (1 : Int)) < b then
      IntKind.i64.wrap ((↑c.ways.length : Int) - (1 : Int))
    else b)] : List AV) = [AV.ptr (0 : Nat) (0 : Nat), AV.int IntKind.i64 p.snd]) ∧ 
  ((([((0 : Nat), AObj.cells [AV.tl GT.int c.ways, AV.int IntKind.i64 c.policy])] : Heap) = [((0 : Nat), AObj.cells [AV.tl GT.int p.fst.ways, AV.int IntKind.i64 p.fst.policy])]) ∧ 
   ((p.snd < (9223372036854775807 : Int) ∧ p.snd < (↑p.fst.ways.length : Int)) ∧ 
    ((aboveGo p.fst.ways (p.snd + (1 : Int)).toNat ≠ (-1 : Int) → 
      k (AV.int IntKind.i64 (aboveGo p.fst.ways (p.snd + (1 : Int)).toNat))) ∧ (aboveGo p.fst.ways (p.snd + (1 : Int)).toNat = (-1 : Int) → 
      k (AV.int IntKind.i64 (-1 : Int))))))))) := by kernel_rfl
theorem w_Above1 (c : Cnf) (j : Int) (back : List AV → Heap → Prop) (out : AX → List AV → Heap → Prop) : (roundC (sConfD lAbove) lAbove (loopAt Try.f17 0) [.ptr 0 0, .int .i64 j] [(0, .cells (encCnf c).cells)] back out) = (((decide (j ≥ (0 : Int)) = true → 
  ((True) ∧ 
   ((fAt c j (1 : Int) = true → 
     out AX.ret [AV.int IntKind.i64 j] []) ∧ (fAt c j (1 : Int) = false → 
     back [AV.ptr (0 : Nat) (0 : Nat), AV.int IntKind.i64 (IntKind.i64.wrap (j - (1 : Int)))]
  [((0 : Nat), AObj.cells [AV.tl GT.int c.ways, AV.int IntKind.i64 c.policy])])))) ∧ (decide (j ≥ (0 : Int)) = false → 
  out (AX.exit (0 : Nat)) [AV.dead] []))) := by kernel_rfl
theorem w_rAbove (c : Cnf) (b : Int) (k : AV → Prop) : (funC (sConfD lRAbove) Try.f18 [encCnf c, .int .i64 b] k) = ((∃ p : Cnf × Int × Nat, 
 ((([AV.int IntKind.i64 b, AV.ptr (0 : Nat) (0 : Nat), AV.int IntKind.i64 (0 : Int), AV.int IntKind.i64 (-1 : Int),
  AV.int IntKind.i64 (0 : Int)] : List AV) = [AV.int IntKind.i64 p.snd.fst, AV.ptr (0 : Nat) (0 : Nat), AV.int IntKind.i64 (0 : Int),
  AV.int IntKind.i64 (aboveGo p.fst.ways p.snd.snd), AV.int IntKind.i64 (↑p.snd.snd : Int)]) ∧ 
  ((([((0 : Nat), AObj.cells [AV.tl GT.int c.ways, AV.int IntKind.i64 c.policy])] : Heap) = [((0 : Nat), AObj.cells [AV.tl GT.int p.fst.ways, AV.int IntKind.i64 p.fst.policy])]) ∧ 
   ((p.fst.ways.length ≤ (9223372036854775807 : Nat) ∧
  (↑p.snd.snd : Int) ≤ max (0 : Int) (min (p.snd.fst + (1 : Int)) (↑p.fst.ways.length : Int))) ∧ 
    k (AV.int IntKind.i64 (aboveGo p.fst.ways (min (p.snd.fst + (1 : Int)) (↑p.fst.ways.length : Int)).toNat))))))) := by kernel_rfl
theorem w_rAbove1 (c : Cnf) (b a : Int) (i : Nat) (back : List AV → Heap → Prop) (out : AX → List AV → Heap → Prop) : (roundC (sConfD lRAbove) lRAbove (loopAt Try.f18 0) [.int .i64 b, .ptr 0 0, .int .i64 0, .int .i64 a, .int .i64 i] [(0, .cells (encCnf c).cells)] back out) = (((decide ((↑i : Int) < (↑c.ways.length : Int)) = true → 
  ((decide ((↑i : Int) ≤ b) = true → 
    ((True) ∧ 
     ((fAt c (↑i : Int) (1 : Int) = true → 
       back
  [AV.int IntKind.i64 b, AV.ptr (0 : Nat) (0 : Nat), AV.int IntKind.i64 (0 : Int), AV.int IntKind.i64 (↑i : Int),
    AV.int IntKind.i64 (IntKind.i64.wrap ((↑i : Int) + (1 : Int)))]
  [((0 : Nat), AObj.cells [AV.tl GT.int c.ways, AV.int IntKind.i64 c.policy])]) ∧ (fAt c (↑i : Int) (1 : Int) = false → 
       back
  [AV.int IntKind.i64 b, AV.ptr (0 : Nat) (0 : Nat), AV.int IntKind.i64 (0 : Int), AV.int IntKind.i64 a,
    AV.int IntKind.i64 (IntKind.i64.wrap ((↑i : Int) + (1 : Int)))]
  [((0 : Nat), AObj.cells [AV.tl GT.int c.ways, AV.int IntKind.i64 c.policy])])))) ∧ (decide ((↑i : Int) ≤ b) = false → 
    out (AX.exit (0 : Nat)) [AV.int IntKind.i64 (0 : Int), AV.int IntKind.i64 a] []))) ∧ (decide ((↑i : Int) < (↑c.ways.length : Int)) = false → 
  out (AX.exit (0 : Nat)) [AV.int IntKind.i64 (0 : Int), AV.int IntKind.i64 a] []))) := by kernel_rfl
theorem w_rIs (c : Cnf) (k : AV → Prop) : (funC (sConfD lRIs) Try.f12 [encCnf c] k) = ((∃ p : Cnf × Nat, 
 ((([AV.ptr (0 : Nat) (0 : Nat), AV.bool false, AV.int IntKind.i64 (0 : Int)] : List AV) = [AV.ptr (0 : Nat) (0 : Nat), AV.bool false, AV.int IntKind.i64 (↑p.snd : Int)]) ∧ 
  ((([((0 : Nat), AObj.cells [AV.tl GT.int c.ways, AV.int IntKind.i64 c.policy])] : Heap) = [((0 : Nat), AObj.cells [AV.tl GT.int p.fst.ways, AV.int IntKind.i64 p.fst.policy])]) ∧ 
   ((p.fst.ways.length ≤ (9223372036854775807 : Nat)) ∧ 
    (((List.drop p.snd p.fst.ways).any odd = true → 
      k (AV.bool false)) ∧ ((List.drop p.snd p.fst.ways).any odd = false → 
      ((decide ((↑p.fst.ways.length : Int) ≥ (1 : Int)) = true → 
        ((decide ((↑p.fst.ways.length : Int) ≤ (8 : Int)) = true → 
          (((0 : Int) ≤ (0 : Int) ∧ (0 : Int) < (↑p.fst.ways.length : Int)) ∧ 
           (((p.fst.ways.getD (Int.toNat (0 : Int)) GT.int.nought == (1 : Int)) = true → 
             ((decide (p.fst.policy ≥ (1 : Int)) = true → 
               k (AV.ub (decide (p.fst.policy ≤ (4 : Int))))) ∧ (decide (p.fst.policy ≥ (1 : Int)) = false → 
               k (AV.bool false)))) ∧ ((p.fst.ways.getD (Int.toNat (0 : Int)) GT.int.nought == (1 : Int)) = false → 
             k (AV.bool false))))) ∧ (decide ((↑p.fst.ways.length : Int) ≤ (8 : Int)) = false → 
          k (AV.bool false)))) ∧ (decide ((↑p.fst.ways.length : Int) ≥ (1 : Int)) = false → 
        k (AV.bool false)))))))))) := by kernel_rfl
theorem w_rIs1 (c : Cnf) (i : Nat) (back : List AV → Heap → Prop) (out : AX → List AV → Heap → Prop) : (roundC (sConfD lRIs) lRIs (loopAt Try.f12 0) [.ptr 0 0, .bool false, .int .i64 i] [(0, .cells (encCnf c).cells)] back out) = (((decide ((↑i : Int) < (↑c.ways.length : Int)) = true → 
  (((0 : Int) ≤ (↑i : Int) ∧ (↑i : Int) < (↑c.ways.length : Int)) ∧ 
   ((decide (c.ways.getD (↑i : Int).toNat GT.int.nought < (1 : Int)) = true → 
     out AX.ret [AV.ptr (0 : Nat) (0 : Nat), AV.bool false]
  [((0 : Nat), AObj.cells [AV.tl GT.int c.ways, AV.int IntKind.i64 c.policy])]) ∧ (decide (c.ways.getD (↑i : Int).toNat GT.int.nought < (1 : Int)) = false → 
     (((0 : Int) ≤ (↑i : Int) ∧ (↑i : Int) < (↑c.ways.length : Int)) ∧ 
      ((decide (c.ways.getD (↑i : Int).toNat GT.int.nought > (3 : Int)) = true → 
        out AX.ret [AV.ptr (0 : Nat) (0 : Nat), AV.bool false]
  [((0 : Nat), AObj.cells [AV.tl GT.int c.ways, AV.int IntKind.i64 c.policy])]) ∧ (decide (c.ways.getD (↑i : Int).toNat GT.int.nought > (3 : Int)) = false → 
        back [AV.ptr (0 : Nat) (0 : Nat), AV.bool false, AV.int IntKind.i64 (IntKind.i64.wrap ((↑i : Int) + (1 : Int)))]
  [((0 : Nat), AObj.cells [AV.tl GT.int c.ways, AV.int IntKind.i64 c.policy])]))))))) ∧ (decide ((↑i : Int) < (↑c.ways.length : Int)) = false → 
  out (AX.exit (0 : Nat)) [AV.ptr (0 : Nat) (0 : Nat), AV.bool false]
  [((0 : Nat), AObj.cells [AV.tl GT.int c.ways, AV.int IntKind.i64 c.policy])]))) := by kernel_rfl
end Go.Proofs.Ytjihnbjdclobgaa.VS
